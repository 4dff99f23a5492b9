/- Package crc: what its calls do. -/
import Derived.Test.YtnfcbpgckomdfaaDoorBits
namespace Go.Proofs.YtnfcbpgckomdfaaDoor
theorem listSet_at (pre : List Value) (x y : Value) (post : List Value) (k : Nat) (hk : k = pre.length) : listSet (pre ++ x :: post) k [y] = some (pre ++ y :: post) := by
  subst hk
  induction pre with
  | nil => cases post <;> rfl
  | cons a p ih => simp [listSet, ih]
/-- One step of a table's row. -/
def crcBit (x : Int) : Int := IntKind.u32.wrap (BitVec.ofInt IntKind.u32.bits (x.fdiv (2 ^ min (Int.toNat 1) IntKind.u32.bits)) ^^^ BitVec.ofInt IntKind.u32.bits (IntKind.u32.wrap (BitVec.ofInt IntKind.u32.bits 3988292384 &&& BitVec.ofInt IntKind.u32.bits (IntKind.u32.wrap (0 - IntKind.u32.wrap (BitVec.ofInt IntKind.u32.bits x &&& BitVec.ofInt IntKind.u32.bits 1).toNat))).toNat)).toNat
def crcBits : Nat → Int → Int
  | 0, x => x
  | n + 1, x => crcBits n (crcBit x)
def crcRow (i : Nat) : Int := crcBits 8 (i : Int)
def crcTab : List Value := (List.range 256).map fun i => .int .u32 (crcRow i)
theorem crcBits_add : ∀ (a b : Nat) (x : Int), crcBits (a + b) x = crcBits b (crcBits a x)
  | 0, b, x => by simp [crcBits]
  | a + 1, b, x => by rw [show a + 1 + b = (a + b) + 1 from by omega]; exact crcBits_add a b (crcBit x)
/-- The table, its first rows filled in. -/
def crcPart (i : Nat) : List Value := (List.range i).map (fun i => .int .u32 (crcRow i)) ++ List.replicate (256 - i) (.int .u32 0)
theorem u32_small (i : Nat) (h : i < 256) : IntKind.u32.wrap (i : Int) = (i : Int) := by simp [IntKind.wrap, IntKind.bits, IntKind.signed]; omega
set_option maxHeartbeats 400000
theorem crcNew_spec : Spec Tryd.prog 41 #[] noFacts [] fun r L => ∃ g, r = .pointer (some ⟨g, 0, none⟩) ∧ L = [HP.row g crcTab 143] := by
  refine Spec.go (vs := []) (hT := tyOk) (hm := mixed0) Tryd.func41 rfl Tryd.ntmps41 rfl ?_
  intro W p _
  refine Good.on ?_
  refine Good.val (Yv.zeroArr rfl rfl rfl rfl) ?_
  refine Good.on ?_
  refine Good.box (fun g => ?_)
  refine Good.on ?_
  refine Good.loop (ι := Nat) (fun i => [(1, .v (.pointer (some ⟨g, 0, none⟩))), (6, .v (.int .i64 i))]) (fun i => [HP.row g (crcPart i) 143]) (fun i => i ≤ 256) (fun i => 256 - i) 0 (by omega) ⟨rfl, rfl, trivial⟩ (fun _ h => h) ?_
  intro i hi
  refine Good.on ?_
  refine Good.ifD (fun h => ?_) (fun h => ?_) <;> refine Good.on ?_
  · have hi' : i < 256 := by omega
    refine Good.loop (ι := Nat) (fun j => [(1, .v (.pointer (some ⟨g, 0, none⟩))), (2, .v (.int .i64 i)), (6, .v (.int .i64 i)), (3, .v (.int .u32 (crcBits j (i : Int)))), (11, .v (.int .i64 j))]) (fun _ => [HP.row g (crcPart i) 143]) (fun j => j ≤ 8) (fun j => 8 - j) 0 (by omega)
      ⟨rfl, rfl, rfl, by rw [show (Tm.get _ 3 : Option Ent) = some (.v (.int .u32 (IntKind.u32.wrap (i : Int)))) from rfl, u32_small i hi']; rfl, rfl, trivial⟩ (fun _ h => h) ?_
    intro j hj
    refine Good.on ?_
    refine Good.ifD (fun h => ?_) (fun h => ?_) <;> refine Good.on ?_
    · refine Good.again (j + 1) ⟨by omega, by omega⟩ ⟨rfl, rfl, rfl, ?_, ?_, trivial⟩ (fun _ h => h)
      · rw [crcBits_add]; rfl
      · show some (Value.int .i64 _) = _
        rw [w64 _ (by omega)]; rfl
    · have hj8 : j = 8 := by omega
      subst hj8
      have hlen : ((List.range i).map fun i => Value.int .u32 (crcRow i)).length = i := by simp
      have hp : crcPart i = ((List.range i).map fun i => Value.int .u32 (crcRow i)) ++ Value.int .u32 0 :: List.replicate (255 - i) (.int .u32 0) := by
        unfold crcPart
        rw [show 256 - i = (255 - i) + 1 from by omega, List.replicate_succ]
      refine Good.val (Yv.indexArr rfl rfl rfl rfl rfl rfl (by omega) (by omega)) ?_
      refine Good.on ?_
      have hst : listSet (crcPart i) (0 + (i : Int).toNat * 1) [Value.int .u32 (crcBits 8 (i : Int))] = some (((List.range i).map fun i => Value.int .u32 (crcRow i)) ++ Value.int .u32 (crcBits 8 (i : Int)) :: List.replicate (255 - i) (.int .u32 0)) := by
        rw [hp]; exact listSet_at _ _ _ _ _ (by rw [hlen]; simp)
      refine Good.store 0 ?_ (hs := hst)
      refine Good.on ?_
      refine Good.again (i + 1) ⟨by omega, by omega⟩ ⟨rfl, ?_, trivial⟩ (fun w h => ?_)
      · show some (Value.int .i64 _) = _
        rw [w64 _ (by omega)]; rfl
      · have : crcPart (i + 1) = ((List.range i).map fun i => Value.int .u32 (crcRow i)) ++ Value.int .u32 (crcBits 8 (i : Int)) :: List.replicate (255 - i) (.int .u32 0) := by
          unfold crcPart
          rw [List.range_succ, List.map_append, List.append_assoc, show 256 - (i + 1) = 255 - i from by omega]; rfl
        rw [this]; exact h
  · have : i = 256 := by omega
    subst this
    refine Good.ret1 Tryd.results41 (Res.tmp rfl) ⟨g, rfl, rfl⟩ (fun w h => ?_)
    have : crcPart 256 = crcTab := by simp [crcPart, crcTab]
    rw [this] at h; exact h
/-- The place in the table, and one byte more. -/
def crcIx (x : Int) (b : UInt8) : Int := IntKind.u8.wrap (BitVec.ofInt IntKind.u8.bits (IntKind.u8.wrap x) ^^^ BitVec.ofInt IntKind.u8.bits (b.toNat : Int)).toNat
def crcStep (x : Int) (b : UInt8) : Int := IntKind.u32.wrap (BitVec.ofInt IntKind.u32.bits (crcRow (crcIx x b).toNat) ^^^ BitVec.ofInt IntKind.u32.bits (x.fdiv (2 ^ min (Int.toNat 8) IntKind.u32.bits))).toNat
def crcSum (bs : List UInt8) : Int := IntKind.u32.wrap (BitVec.ofInt IntKind.u32.bits (if IntKind.u32.signed then -1 else IntKind.u32.max) ^^^ BitVec.ofInt IntKind.u32.bits (bs.foldl crcStep 4294967295)).toNat
theorem u8_range (x : Int) : 0 ≤ IntKind.u8.wrap x ∧ IntKind.u8.wrap x < 256 := by
  simp [IntKind.wrap, IntKind.bits, IntKind.signed]; omega
theorem crcTab_get (k : Nat) (h : k < 256) : nthL crcTab k = some (.int .u32 (crcRow k)) := by
  rw [nthL_eq]; simp [crcTab, h]
theorem crcSum_spec (g : Nat) (bs : List UInt8) (hl : bs.length ≤ 9223372036854775807) : Spec Tryd.prog 42 #[.pointer (some ⟨g, 0, none⟩), .string (str bs)] noFacts [HP.row g crcTab 143] fun r L => r = .int .u32 (crcSum bs) ∧ L = [HP.row g crcTab 143] := by
  refine Spec.go (vs := [_, _]) (hT := tyOk) (hm := mixed0) Tryd.func42 rfl Tryd.ntmps42 rfl ?_
  intro W p _
  refine Good.on ?_
  refine Good.loop (ι := Nat) (fun i => [(0, .v (.pointer (some ⟨g, 0, none⟩))), (1, .v (.string (str bs))), (5, .v (.int .u32 ((bs.take i).foldl crcStep 4294967295))), (8, .v (.int .i64 bs.length)), (9, .v (.int .i64 i))]) (fun _ => [HP.row g crcTab 143]) (fun i => i ≤ bs.length) (fun i => bs.length - i) 0 (by omega) ⟨rfl, rfl, rfl, ?_, rfl, trivial⟩ (fun _ h => h) ?_
  · show some (Value.int .i64 _) = _; rw [str_size]; rfl
  intro i hi
  refine Good.on ?_
  refine Good.ifD (fun h => ?_) (fun h => ?_) <;> refine Good.on ?_
  · have hi' : i < bs.length := by omega
    have hb : bs[i]? = some bs[i] := List.getElem?_eq_getElem hi'
    refine Good.drawn ?_
    refine Good.dval 5 rfl (Yv.index (b := bs[i]) rfl rfl rfl rfl rfl (by omega) (by rw [Int.toNat_natCast]; exact hb)) ?_
    refine Good.drawn ?_
    have hr := u8_range (BitVec.ofInt IntKind.u8.bits (IntKind.u8.wrap ((bs.take i).foldl crcStep 4294967295)) ^^^ BitVec.ofInt IntKind.u8.bits (bs[i].toNat : Int)).toNat
    refine Good.dval 8 rfl (Yv.indexArr rfl rfl rfl rfl rfl rfl hr.1 (by omega)) ?_
    have hget := crcTab_get (crcIx ((bs.take i).foldl crcStep 4294967295) bs[i]).toNat (by unfold crcIx; omega)
    refine Good.done 9 rfl (OpW.loadAt 0 (v := .int .u32 (crcRow (crcIx ((bs.take i).foldl crcStep 4294967295) bs[i]).toNat)) rfl rfl rfl rfl rfl rfl (by simpa [ti84, crcIx] using hget) ?_)
    refine Good.drawn ?_
    refine Good.dend ?_
    refine Good.on ?_
    refine Good.again (i + 1) ⟨by omega, by omega⟩ ⟨rfl, rfl, ?_, rfl, ?_, trivial⟩ (fun _ h => h)
    · rw [List.take_succ_eq_append_getElem hi', List.foldl_append]; rfl
    · show some (Value.int .i64 _) = _; rw [w64 _ (by omega)]; rfl
  · have : i = bs.length := by omega
    subst this
    refine Good.ret1 Tryd.results42 (Res.tmp rfl) ⟨?_, rfl⟩ (fun _ h => h)
    rw [List.take_length]; rfl
def be4 (x : Int) : List Int := [IntKind.u8.wrap (x.fdiv (2 ^ min (Int.toNat 24) IntKind.u32.bits)), IntKind.u8.wrap (x.fdiv (2 ^ min (Int.toNat 16) IntKind.u32.bits)), IntKind.u8.wrap (x.fdiv (2 ^ min (Int.toNat 8) IntKind.u32.bits)), IntKind.u8.wrap x]
/-- A text's sum, as bytes; a text with its sum. -/
def sum4 (bs : List UInt8) : List UInt8 := (be4 (crcSum bs)).map fun n => UInt8.ofNat n.toNat
def sealL (bs : List UInt8) : List UInt8 := bs ++ sum4 bs
theorem sum4_length (bs : List UInt8) : (sum4 bs).length = 4 := rfl
theorem sealL_length (bs : List UInt8) : (sealL bs).length = bs.length + 4 := by simp [sealL, sum4_length]
/-- A row of cells is a slice that owns its array. -/
theorem Sat.rowSlc {W w : World} {p : Hl} {l : List HP} {g n sz : Nat} {xs : List Value} {e : TypeId} (h1 : xs.length = n * sz) (h2 : n ≤ maxLen) (s : Sat W p (HP.row g xs e :: l) w) : Sat W p (slc e sz (.slice (some ⟨g, 0, none⟩) n n) xs :: l) w :=
  Sat.slcShut (rest := []) h1 (Nat.le_refl _) h2 (by simpa using h1) (by simpa using s)
set_option maxRecDepth 10000 in
theorem crcSeal_spec (g : Nat) (bs : List UInt8) (hl : bs.length ≤ 140737488355328) : Spec Tryd.prog 44 #[.pointer (some ⟨g, 0, none⟩), .string (str bs)] noFacts [HP.row g crcTab 143] fun r L => r = .string (str (sealL bs)) ∧ L = [HP.row g crcTab 143] := by
  refine Spec.go (vs := [_, _]) (hT := tyOk) (hm := mixed0) Tryd.func44 rfl Tryd.ntmps44 rfl ?_
  intro W p _
  refine Good.on ?_
  refine Good.call1 0 (crcSum_spec g bs (by omega)) ck42 ?_
  rintro v L ⟨rfl, rfl⟩
  refine Good.on ?_
  refine Good.op rfl (OpW.lit rfl rfl rfl fun g' => ?_)
  refine Good.mem (l' := [slc 5 1 (.slice (some ⟨g', 0, none⟩) 4 4) (bytesC (be4 (crcSum bs))), HP.row g crcTab 143]) (fun w h => Sat.rowSlc rfl (by unfold maxLen; omega) h) ?_
  refine Good.on ?_
  refine Good.bytesStr 0 (ns := be4 (crcSum bs)) ?_
  refine Good.on ?_
  refine Good.val (Yv.concat (a := bs) (b := sum4 bs) rfl rfl rfl (by rw [sum4_length]; omega)) ?_
  refine Good.on ?_
  exact Good.ret1 Tryd.results44 (Res.tmp rfl) ⟨rfl, rfl⟩ (fun _ h => h.tail)
/-- The text of which these bytes are the seal; false: none. -/
def openL (bs : List UInt8) : Option (List UInt8) := if bs.length < 4 then none else if sealL (bs.take (bs.length - 4)) = bs then some (bs.take (bs.length - 4)) else none
def openV : Option (List UInt8) → Value
  | some b => .tuple #[.string (str b), .bool true]
  | none => .tuple #[.string (str []), .bool false]
theorem crcOpen_spec (g : Nat) (bs : List UInt8) (hl : bs.length ≤ 140737488355328) : Spec Tryd.prog 46 #[.pointer (some ⟨g, 0, none⟩), .string (str bs)] noFacts [HP.row g crcTab 143] fun r L => r = openV (openL bs) ∧ L = [HP.row g crcTab 143] := by
  refine Spec.go (vs := [_, _]) (hT := tyOk) (hm := mixed0) Tryd.func46 rfl Tryd.ntmps46 rfl ?_
  intro W p _
  refine Good.on ?_
  rw [str_size]
  refine Good.partD (fun h => ?_) (fun h => ?_) <;> refine Good.on ?_
  · refine Good.ret2 Tryd.results46 (Res.tmp rfl) (Res.tmp rfl) ⟨?_, rfl⟩ (fun _ h => h)
    rw [openL, if_pos (by omega)]; rfl
  · have h4 : 4 ≤ bs.length := by omega
    rw [str_size, w64 _ (by omega)]
    have hx : ((bs.length : Int) - 4) = ((bs.length - 4 : Nat) : Int) := by omega
    rw [hx]
    refine Good.val (Yv.sliceStr 0 (bs.length - 4) rfl rfl rfl rfl rfl rfl rfl ⟨_, rfl⟩ (by omega) (by omega)) ?_
    refine Good.on ?_
    rw [List.drop_zero]
    refine Good.call1 0 (crcSeal_spec g (bs.take (bs.length - 4)) (by rw [List.length_take]; omega)) ck44 ?_
    rintro v L ⟨rfl, rfl⟩
    refine Good.on ?_
    rw [str_toList, str_toList]
    refine Good.ifB (fun h => ?_) (fun h => ?_) <;> refine Good.on ?_
    · refine Good.ret2 Tryd.results46 (Res.tmp rfl) (Res.tmp rfl) ⟨?_, rfl⟩ (fun _ h => h)
      rw [openL, if_neg (by omega), if_neg (by simpa using h)]; rfl
    · rw [str_size, w64 _ (by omega), hx]
      refine Good.val (Yv.sliceStr 0 (bs.length - 4) rfl rfl rfl rfl rfl rfl rfl ⟨_, rfl⟩ (by omega) (by omega)) ?_
      refine Good.on ?_
      rw [List.drop_zero]
      refine Good.ret2 Tryd.results46 (Res.tmp rfl) (Res.tmp rfl) ⟨?_, rfl⟩ (fun _ h => h)
      rw [openL, if_neg (by omega), if_pos (by simpa using h)]; rfl
end Go.Proofs.YtnfcbpgckomdfaaDoor
