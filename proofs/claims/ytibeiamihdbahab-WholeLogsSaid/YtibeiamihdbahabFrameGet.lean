/- Package frame: reading records. -/
import Derived.Test.YtibeiamihdbahabFrame
namespace Go.Proofs.Ytibeiamihdbahab
def openR : List UInt8 → Rec × Int
  | [] => (Rec.zero, 3)
  | c :: r => if kindB (c.toNat : Int) then (if (getL r).2.2 = 0 then (⟨(c.toNat : Int), back (getL r).1, r.drop (getL r).2.1⟩, 0) else (Rec.zero, (getL r).2.2)) else (Rec.zero, 3)
def openRV (x : Rec × Int) : Value := .tuple #[x.1.val, .int .i64 x.2]
set_option maxHeartbeats 800000
set_option maxRecDepth 10000
theorem i64_byte (c : UInt8) : IntKind.i64.wrap (c.toNat : Int) = (c.toNat : Int) := w64 _ (by have := UInt8.toNat_lt c; omega)
theorem frameOpen_spec (c : UInt8) (bs : List UInt8) (hl : bs.length ≤ 140737488355327) : Spec Try.prog 35 #[.string (str (c :: bs))] noFacts [] fun x L => x = openRV (openR (c :: bs)) ∧ L = [] := by
  refine Spec.go (vs := [_]) (hT := tyOk) (hm := mixed0) Try.func35 rfl Try.ntmps35 rfl ?_
  intro W p _
  refine Good.on ?_
  refine Good.alloc (fun g => ?_)
  refine Good.on ?_
  refine Good.val (Yv.index (b := c) rfl rfl rfl rfl rfl (by omega) rfl) ?_
  refine Good.on ?_
  rw [i64_byte]
  refine Good.call0 (frameKind_spec _) ck13 ?_
  rintro v1 L ⟨rfl, rfl⟩
  refine Good.on ?_
  refine Good.ifB (fun h => ?_) (fun h => ?_) <;> refine Good.on ?_
  · refine Good.build ?_
    refine Good.on ?_
    refine Good.store 0 ?_
    refine Good.on ?_
    refine Good.ret2 Try.results35 (Res.row 0) (Res.tmp rfl) ⟨?_, rfl⟩ (fun _ h => h.tail)
    rw [openR, if_neg (by simpa using h)]; rfl
  · have hk : kindB (c.toNat : Int) = true := by simpa using h
    refine Good.val (Yv.sliceStr 1 (bs.length + 1) rfl rfl rfl rfl rfl rfl ⟨_, rfl⟩ rfl (by omega) (by simp)) ?_
    refine Good.on ?_
    rw [show ((c :: bs).take (bs.length + 1)).drop 1 = bs from by simp]
    refine Good.call0 (varintGetInt_spec bs (by omega)) ck41 ?_
    rintro v2 L ⟨rfl, rfl⟩
    refine Good.on ?_
    refine Good.ifB (fun h2 => ?_) (fun h2 => ?_) <;> refine Good.on ?_
    · refine Good.build ?_
      refine Good.on ?_
      refine Good.store 0 ?_
      refine Good.on ?_
      refine Good.ret2 Try.results35 (Res.row 0) (Res.tmp rfl) ⟨?_, rfl⟩ (fun _ h => h.tail)
      rw [openR, if_pos hk, if_neg (by simpa using h2)]; rfl
    · have hg := getL_lt bs
      refine Good.drawn ?_
      rw [w64 _ (by omega)]
      refine Good.dval 1 rfl (Yv.index (b := c) rfl rfl rfl rfl rfl (by omega) rfl) ?_
      refine Good.drawn ?_
      rw [i64_byte]
      refine Good.dval 7 rfl (Yv.sliceStr (1 + (getL bs).2.1) (bs.length + 1) rfl rfl rfl rfl rfl rfl ⟨_, rfl⟩ rfl (by omega) (by simp)) ?_
      refine Good.dval 8 rfl (Yv.build rfl rfl) ?_
      refine Good.done 9 rfl (OpW.storeAt 0 rfl rfl rfl rfl rfl rfl rfl rfl rfl rfl ?_)
      refine Good.drawn ?_
      refine Good.dend ?_
      refine Good.on ?_
      refine Good.ret2 Try.results35 (Res.row 0) (Res.tmp rfl) ⟨?_, rfl⟩ (fun _ h => Sat.tail h)
      rw [openR, if_pos hk, if_pos (by simpa using h2)]
      rw [show ((c :: bs).take (bs.length + 1)).drop (1 + (getL bs).2.1) = bs.drop (getL bs).2.1 from by rw [Nat.add_comm]; simp]
      rfl
/-- The record with which bytes begin, how many bytes it has, and the error. -/
def getR (bs : List UInt8) : Rec × Nat × Int :=
  if (getL bs).2.2 ≠ 0 then (Rec.zero, 0, (getL bs).2.2)
  else if (getL bs).1 < 2 ∨ 65536 < (getL bs).1 then (Rec.zero, 0, 4)
  else if bs.length < (getL bs).2.1 + (getL bs).1 + 4 then (Rec.zero, 0, 1)
  else match openL ((bs.take ((getL bs).2.1 + (getL bs).1 + 4)).drop (getL bs).2.1) with
    | none => (Rec.zero, 0, 5)
    | some b => if (openR b).2 ≠ 0 then (Rec.zero, 0, (openR b).2) else ((openR b).1, (getL bs).2.1 + (getL bs).1 + 4, 0)
def getRV (x : Rec × Nat × Int) : Value := .tuple #[x.1.val, .int .i64 x.2.1, .int .i64 x.2.2]
theorem frameGet_spec (bs : List UInt8) (hl : bs.length ≤ 140737488355327) : Spec Try.prog 20 #[.string (str bs)] noFacts [] fun x L => x = getRV (getR bs) ∧ L = [] := by
  refine Spec.go (vs := [_]) (hT := tyOk) (hm := mixed0) Try.func20 rfl Try.ntmps20 rfl ?_
  intro W p _
  refine Good.on ?_
  refine Good.alloc (fun g => ?_)
  refine Good.on ?_
  refine Good.call0 (varintGet_spec bs (by omega)) ck33 ?_
  rintro v1 L ⟨rfl, rfl⟩
  have hg := getL_lt bs
  refine Good.on ?_
  refine Good.ifB (fun h => ?_) (fun h => ?_) <;> refine Good.on ?_
  · refine Good.build ?_
    refine Good.on ?_
    refine Good.store 0 ?_
    refine Good.on ?_
    refine Good.ret3 Try.results20 (Res.row 0) (Res.tmp rfl) (Res.tmp rfl) ⟨?_, rfl⟩ (fun _ h => h.tail)
    rw [getR, if_pos (by simpa using h)]; rfl
  have he : ¬ (getL bs).2.2 ≠ 0 := by simpa using h
  refine Good.partD (fun h2 => ?_) (fun h2 => ?_) <;> refine Good.on ?_
  · refine Good.build ?_
    refine Good.on ?_
    refine Good.store 0 ?_
    refine Good.on ?_
    refine Good.ret3 Try.results20 (Res.row 0) (Res.tmp rfl) (Res.tmp rfl) ⟨?_, rfl⟩ (fun _ h => h.tail)
    rw [getR, if_neg he, if_pos (.inl (by omega))]; rfl
  refine Good.ifD (fun h6 => ?_) (fun h6 => ?_) <;> refine Good.on ?_
  · refine Good.build ?_
    refine Good.on ?_
    refine Good.store 0 ?_
    refine Good.on ?_
    refine Good.ret3 Try.results20 (Res.row 0) (Res.tmp rfl) (Res.tmp rfl) ⟨?_, rfl⟩ (fun _ h => h.tail)
    rw [getR, if_neg he, if_pos (.inr (by omega))]; rfl
  have hs : ¬ ((getL bs).1 < 2 ∨ 65536 < (getL bs).1) := by omega
  rw [show IntKind.i64.wrap ((getL bs).1 : Int) = ((getL bs).1 : Int) from w64 _ (by omega)]
  rw [show IntKind.i64.wrap (((getL bs).2.1 : Int) + ((getL bs).1 : Int)) = (((getL bs).2.1 + (getL bs).1 : Nat) : Int) from by rw [w64 _ (by omega)]; simp]
  rw [show IntKind.i64.wrap ((((getL bs).2.1 + (getL bs).1 : Nat) : Int) + 4) = (((getL bs).2.1 + (getL bs).1 + 4 : Nat) : Int) from by rw [w64 _ (by omega)]; simp]
  rw [str_size]
  refine Good.ifD (fun h7 => ?_) (fun h7 => ?_) <;> refine Good.on ?_
  · refine Good.build ?_
    refine Good.on ?_
    refine Good.store 0 ?_
    refine Good.on ?_
    refine Good.ret3 Try.results20 (Res.row 0) (Res.tmp rfl) (Res.tmp rfl) ⟨?_, rfl⟩ (fun _ h => h.tail)
    rw [getR, if_neg he, if_neg hs, if_pos (by omega)]; rfl
  have hlen : ¬ bs.length < (getL bs).2.1 + (getL bs).1 + 4 := by omega
  have hcut : ((bs.take ((getL bs).2.1 + (getL bs).1 + 4)).drop (getL bs).2.1).length = (getL bs).1 + 4 := by rw [List.length_drop, List.length_take]; omega
  refine Good.drawn ?_
  refine Good.dval 4 rfl (Yv.sliceStr (getL bs).2.1 ((getL bs).2.1 + (getL bs).1 + 4) rfl rfl rfl rfl rfl rfl ⟨_, rfl⟩ ⟨_, rfl⟩ (by omega) (by omega)) ?_
  refine Good.done 0 rfl (OpW.call0 crcNew_spec ck16 rfl rfl rfl ?_)
  rintro v4 L ⟨g4, rfl, rfl⟩
  refine Good.done 5 rfl (OpW.call1 0 (crcOpen_spec g4 _ (by rw [hcut]; omega)) ck34 rfl rfl rfl rfl ?_)
  rintro v5 L ⟨rfl, rfl⟩
  cases ho : openL ((bs.take ((getL bs).2.1 + (getL bs).1 + 4)).drop (getL bs).2.1) with
  | none =>
    refine Good.drawn ?_
    refine Good.dend ?_
    refine Good.on ?_
    refine Good.ifB (fun _ => ?_) (fun h => ?_)
    rotate_left
    · exact absurd h (by decide)
    refine Good.on ?_
    refine Good.build ?_
    refine Good.on ?_
    refine Good.store 1 ?_
    refine Good.on ?_
    refine Good.ret3 Try.results20 (Res.row 1) (Res.tmp rfl) (Res.tmp rfl) ⟨?_, rfl⟩ (fun _ h => h.tail.tail)
    rw [getR, if_neg he, if_neg hs, if_neg hlen, ho]; rfl
  | some b =>
    have hb : b.length = (getL bs).1 := by
      unfold openL at ho
      split at ho
      · cases ho
      · split at ho
        · have := Option.some.inj ho
          rw [← this, List.length_take, hcut]; omega
        · cases ho
    obtain ⟨c, r, rfl⟩ : ∃ c r, b = c :: r := by
      cases b with
      | nil => simp at hb; omega
      | cons c r => exact ⟨c, r, rfl⟩
    refine Good.drawn ?_
    refine Good.dend ?_
    refine Good.on ?_
    refine Good.ifB (fun h => ?_) (fun _ => ?_)
    · exact absurd h (by decide)
    refine Good.on ?_
    refine Good.call0 (frameOpen_spec c r (by simp at hb; omega)) ck35 ?_
    rintro v6 L ⟨rfl, rfl⟩
    refine Good.on ?_
    refine Good.alloc (fun g6 => ?_)
    refine Good.on ?_
    refine Good.store 0 ?_
    refine Good.on ?_
    refine Good.ifB (fun h8 => ?_) (fun h8 => ?_) <;> refine Good.on ?_
    · refine Good.build ?_
      refine Good.on ?_
      refine Good.store 2 ?_
      refine Good.on ?_
      refine Good.ret3 Try.results20 (Res.row 2) (Res.tmp rfl) (Res.tmp rfl) ⟨?_, rfl⟩ (fun _ h => h.tail.tail.tail)
      rw [getR, if_neg he, if_neg hs, if_neg hlen, ho]
      simp only
      rw [if_pos (by simpa using h8)]; rfl
    · refine Good.loadRow 0 ?_
      refine Good.on ?_
      refine Good.store 2 ?_
      refine Good.on ?_
      refine Good.ret3 Try.results20 (Res.row 2) (Res.tmp rfl) (Res.tmp rfl) ⟨?_, rfl⟩ (fun _ h => h.tail.tail.tail)
      rw [getR, if_neg he, if_neg hs, if_neg hlen, ho]
      simp only
      rw [if_neg (by simpa using h8)]; rfl
end Go.Proofs.Ytibeiamihdbahab
