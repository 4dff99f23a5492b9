/- Package choice; strings.Cut, strings.TrimSuffix. -/
import Derived.Test.YtnfcbpgckomdfaaDoorBack
namespace Go.Proofs.YtnfcbpgckomdfaaDoor
open Go.Lib (strCells)
structure ChoiceD where
  tick : Bool
  n : Int
  deriving DecidableEq
def ChoiceD.cells (c : ChoiceD) : List Value := [.bool c.tick, .int .i64 c.n]
def ChoiceD.val (c : ChoiceD) : Value := .agg c.cells.toArray
def tickL : List UInt8 := [116, 105, 99, 107]
def pollL : List UInt8 := [112, 111, 108, 108]
def chL (c : ChoiceD) : List UInt8 := if c.tick then tickL ++ 32 :: itoaL c.n else pollL ++ 32 :: itoaL c.n
/-- Before and behind the first byte c. -/
def cutL (c : UInt8) (bs : List UInt8) : List UInt8 × List UInt8 × Bool :=
  if Lib.indexByte bs c < 0 then (bs, [], false) else (bs.take (Lib.indexByte bs c).toNat, bs.drop ((Lib.indexByte bs c).toNat + 1), true)
def cutV (x : List UInt8 × List UInt8 × Bool) : Value := .tuple #[.string (str x.1), .string (str x.2.1), .bool x.2.2]
theorem cutL_at (c : UInt8) (a b : List UInt8) (h : c ∉ a) : cutL c (a ++ c :: b) = (a, b, true) := by
  have hi : Lib.indexByte (a ++ c :: b) c = (a.length : Int) := by
    induction a with
    | nil => simp [Lib.indexByte]
    | cons x a ih =>
      have hx : ¬ (x == c) = true := by simp at h ⊢; exact fun e => h.1 e.symm
      have ih' := ih (fun e => h (by simp [e]))
      rw [List.cons_append, Lib.indexByte, if_neg hx, ih', if_neg (by simp)]; simp
  rw [cutL, if_neg (by omega), hi, Int.toNat_natCast, List.take_left, List.drop_append]; simp
theorem cutL_none (c : UInt8) (a : List UInt8) (h : c ∉ a) : cutL c a = (a, [], false) := by
  have hi : Lib.indexByte a c = -1 := by
    induction a with
    | nil => rfl
    | cons x a ih =>
      have hx : ¬ (x == c) = true := by simp at h ⊢; exact fun e => h.1 e.symm
      have ih' := ih (fun e => h (by simp [e]))
      rw [Lib.indexByte, if_neg hx, ih']; rfl
  rw [cutL, if_pos (by omega)]
def readW (w : List UInt8) (n : Int) : Option ChoiceD := if w = pollL then some ⟨false, n⟩ else if w = tickL then some ⟨true, n⟩ else none
/-- The choice that a line tells. -/
def readO (s : List UInt8) : Option ChoiceD := match cutL 32 s with
  | (w, rest, ok) => if ok then (match numW rest with
    | none => none
    | some n => readW w n) else none
def readOV (o : Option ChoiceD) : Value := match o with
  | some c => .tuple #[c.val, .bool true]
  | none => .tuple #[(ChoiceD.mk false 0).val, .bool false]
set_option maxHeartbeats 1600000
set_option maxRecDepth 20000
theorem tick_spec (n : Int) : Spec Tryd.prog 49 #[.int .i64 n] noFacts [] fun r L => r = (ChoiceD.mk true n).val ∧ L = [] := by
  refine Spec.go (vs := [_]) (hT := tyOk) (hm := mixed0) Tryd.func49 rfl Tryd.ntmps49 rfl ?_
  intro W p _
  refine Good.on ?_
  refine Good.alloc (us := (ChoiceD.mk false 0).cells) (fun g => ?_)
  refine Good.on ?_
  refine Good.build ?_
  refine Good.on ?_
  refine Good.store 0 ?_
  refine Good.on ?_
  refine Good.ret1 Tryd.results49 (Res.row 0) ⟨rfl, rfl⟩ (fun _ h => h.clear)
theorem poll_spec (n : Int) : Spec Tryd.prog 82 #[.int .i64 n] noFacts [] fun r L => r = (ChoiceD.mk false n).val ∧ L = [] := by
  refine Spec.go (vs := [_]) (hT := tyOk) (hm := mixed0) Tryd.func82 rfl Tryd.ntmps82 rfl ?_
  intro W p _
  refine Good.on ?_
  refine Good.alloc (us := (ChoiceD.mk false 0).cells) (fun g => ?_)
  refine Good.on ?_
  refine Good.build ?_
  refine Good.on ?_
  refine Good.store 0 ?_
  refine Good.on ?_
  refine Good.ret1 Tryd.results82 (Res.row 0) ⟨rfl, rfl⟩ (fun _ h => h.clear)
theorem chLine_spec (c : ChoiceD) (hc : I64 c.n) : Spec Tryd.prog 48 #[c.val] Env [] fun r L => r = .string (str (chL c)) ∧ L = [] := by
  refine Spec.go (vs := [_]) (hT := tyOk) (hm := mixed0) Tryd.func48 rfl Tryd.ntmps48 rfl ?_
  intro W p hE
  have hl := itoaL_len hc
  refine Good.on ?_
  refine Good.box (us := c.cells) (fun g => ?_)
  refine Good.on ?_
  refine Good.load 0 (v := .bool c.tick) ?_
  refine Good.on ?_
  refine Good.ifB (fun h => ?_) (fun h => ?_) <;> refine Good.on ?_
  · refine Good.load 0 (v := .int .i64 c.n) ?_
    refine Good.on ?_
    refine Good.callK [] (itoa_spec c.n hc) stays_env hE ck80 ?_
    rintro r L ⟨rfl, rfl⟩
    refine Good.on ?_
    refine Good.val (Yv.concat (a := tickL ++ [32]) rfl rfl rfl (by simp [tickL]; omega)) ?_
    refine Good.on ?_
    refine Good.ret1 Tryd.results48 (Res.tmp rfl) ⟨?_, rfl⟩ (fun _ h => h.clear)
    rw [chL, if_pos h]; simp
  · refine Good.load 0 (v := .int .i64 c.n) ?_
    refine Good.on ?_
    refine Good.callK [] (itoa_spec c.n hc) stays_env hE ck80 ?_
    rintro r L ⟨rfl, rfl⟩
    refine Good.on ?_
    refine Good.val (Yv.concat (a := pollL ++ [32]) rfl rfl rfl (by simp [pollL]; omega)) ?_
    refine Good.on ?_
    refine Good.ret1 Tryd.results48 (Res.tmp rfl) ⟨?_, rfl⟩ (fun _ h => h.clear)
    rw [chL, if_neg (by rw [h]; decide)]; simp
theorem iCut_spec (bs : List UInt8) (c : UInt8) (hl : bs.length ≤ 1000000000) : Spec Tryd.prog 88 #[.string (str bs), .string (str [c])] noFacts [] fun r L => r = cutV (cutL c bs) ∧ L = [] := by
  refine Spec.go (vs := [_, _]) (hT := tyOk) (hm := mixed0) Tryd.func88 rfl Tryd.ntmps88 rfl ?_
  intro W p _
  refine Good.on ?_
  refine Good.callP [] (iIndex_spec bs c) ck108 ?_
  rintro r L ⟨rfl, rfl⟩
  refine Good.on ?_
  refine Good.ifD (fun h => ?_) (fun h => ?_) <;> refine Good.on ?_
  · obtain ⟨m, hm⟩ := Int.eq_ofNat_of_zero_le h
    have hlt := indexByte_lt bs c
    rw [hm] at hlt ⊢
    refine Good.drawn ?_
    refine Good.dval 2 rfl (Yv.sliceStr 0 m rfl rfl rfl rfl rfl rfl rfl ⟨_, rfl⟩ (by omega) (by omega)) ?_
    refine Good.drawn ?_
    rw [show IntKind.i64.wrap ((m : Int) + ((str [c]).size : Nat)) = ((m + 1 : Nat) : Int) from by rw [show (((str [c]).size : Nat) : Int) = 1 from rfl, w64 _ (by omega)]; rfl]
    refine Good.dval 8 rfl (Yv.sliceStr (m + 1) bs.length rfl rfl rfl rfl rfl rfl ⟨_, rfl⟩ rfl (by omega) (by omega)) ?_
    refine Good.drawn ?_
    refine Good.dend ?_
    refine Good.on ?_
    refine Good.ret3 Tryd.results88 (Res.tmp rfl) (Res.tmp rfl) (Res.tmp rfl) ⟨?_, rfl⟩ (fun _ h => h.clear)
    rw [cutL, if_neg (by omega), hm, List.take_length]; rfl
  · refine Good.ret3 Tryd.results88 (Res.tmp rfl) (Res.tmp rfl) (Res.tmp rfl) ⟨?_, rfl⟩ (fun _ h => h.clear)
    rw [cutL, if_pos (by omega)]; rfl
theorem cut_spec (bs : List UInt8) (c : UInt8) (hl : bs.length ≤ 1000000000) : Spec Tryd.prog 60 #[.string (str bs), .string (str [c])] noFacts [] fun r L => r = cutV (cutL c bs) ∧ L = [] := by
  refine Spec.go (vs := [_, _]) (hT := tyOk) (hm := mixed0) Tryd.func60 rfl Tryd.ntmps60 rfl ?_
  intro W p _
  refine Good.on ?_
  refine Good.callP [] (iCut_spec bs c hl) ck88 ?_
  rintro r L ⟨rfl, rfl⟩
  refine Good.on ?_
  refine Good.ret3 Tryd.results60 (Res.tmp rfl) (Res.tmp rfl) (Res.tmp rfl) ⟨rfl, rfl⟩ (fun _ h => h.clear)
theorem iHasSuffix_spec (bs : List UInt8) (c : UInt8) (hl : bs.length ≤ 1000000000) : Spec Tryd.prog 104 #[.string (str (bs ++ [c])), .string (str [c])] noFacts [] fun r L => r = .bool true ∧ L = [] := by
  refine Spec.go (vs := [_, _]) (hT := tyOk) (hm := mixed0) Tryd.func104 rfl Tryd.ntmps104 rfl ?_
  intro W p _
  have e0 : (((str (bs ++ [c])).size : Nat) : Int) = ((bs.length + 1 : Nat) : Int) := by rw [str_size]; simp
  have e1 : (((str [c]).size : Nat) : Int) = 1 := rfl
  refine Good.on ?_
  rw [e0, e1]
  refine Good.partD (fun h => ?_) (fun h => ?_)
  rotate_left
  · omega
  refine Good.on ?_
  rw [e0, e1, show IntKind.i64.wrap (((bs.length + 1 : Nat) : Int) - 1) = ((bs.length : Nat) : Int) from by rw [w64 _ (by omega)]; omega]
  refine Good.val (Yv.sliceStr bs.length (bs.length + 1) rfl rfl rfl rfl rfl rfl ⟨_, rfl⟩ (by simp) (by omega) (by simp)) ?_
  refine Good.on ?_
  refine Good.ret1 Tryd.results104 (Res.tmp rfl) ⟨?_, rfl⟩ (fun _ h => h.clear)
  rw [List.take_of_length_le (by simp), List.drop_left]; simp
theorem iTrim_spec (bs : List UInt8) (c : UInt8) (hl : bs.length ≤ 1000000000) : Spec Tryd.prog 81 #[.string (str (bs ++ [c])), .string (str [c])] noFacts [] fun r L => r = .string (str bs) ∧ L = [] := by
  refine Spec.go (vs := [_, _]) (hT := tyOk) (hm := mixed0) Tryd.func81 rfl Tryd.ntmps81 rfl ?_
  intro W p _
  have e0 : (((str (bs ++ [c])).size : Nat) : Int) = ((bs.length + 1 : Nat) : Int) := by rw [str_size]; simp
  have e1 : (((str [c]).size : Nat) : Int) = 1 := rfl
  refine Good.on ?_
  refine Good.callP [] (iHasSuffix_spec bs c hl) ck104 ?_
  rintro r L ⟨rfl, rfl⟩
  refine Good.on ?_
  (refine Good.ifB (fun h => ?_) (fun h => ?_); rotate_left; exact absurd h (by decide))
  refine Good.on ?_
  rw [e0, e1, show IntKind.i64.wrap (((bs.length + 1 : Nat) : Int) - 1) = ((bs.length : Nat) : Int) from by rw [w64 _ (by omega)]; omega]
  refine Good.val (Yv.sliceStr 0 bs.length rfl rfl rfl rfl rfl rfl rfl ⟨_, rfl⟩ (by omega) (by simp)) ?_
  refine Good.on ?_
  refine Good.ret1 Tryd.results81 (Res.tmp rfl) ⟨?_, rfl⟩ (fun _ h => h.clear)
  rw [List.take_left]; rfl
theorem trim_spec (bs : List UInt8) (c : UInt8) (hl : bs.length ≤ 1000000000) : Spec Tryd.prog 50 #[.string (str (bs ++ [c])), .string (str [c])] noFacts [] fun r L => r = .string (str bs) ∧ L = [] := by
  refine Spec.go (vs := [_, _]) (hT := tyOk) (hm := mixed0) Tryd.func50 rfl Tryd.ntmps50 rfl ?_
  intro W p _
  refine Good.on ?_
  refine Good.callP [] (iTrim_spec bs c hl) ck81 ?_
  rintro r L ⟨rfl, rfl⟩
  refine Good.on ?_
  refine Good.ret1 Tryd.results50 (Res.tmp rfl) ⟨rfl, rfl⟩ (fun _ h => h.clear)
end Go.Proofs.YtnfcbpgckomdfaaDoor
