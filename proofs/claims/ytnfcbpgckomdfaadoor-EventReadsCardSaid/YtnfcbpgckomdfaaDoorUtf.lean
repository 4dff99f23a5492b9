/- unicode/utf8: reading signs. -/
import Derived.Test.YtnfcbpgckomdfaaDoorEnv
namespace Go.Proofs.YtnfcbpgckomdfaaDoor
/-! ## numbers of 32 bits, as sums -/
theorem u8and (n m : Nat) (hn : n < 256) (hm : m < 256) : IntKind.u8.wrap (BitVec.ofInt IntKind.u8.bits (n : Int) &&& BitVec.ofInt IntKind.u8.bits (m : Int)).toNat = ((n &&& m : Nat) : Int) := andU (k := .u8) rfl n m (by simpa [IntKind.bits] using hn) (by simpa [IntKind.bits] using hm)
theorem and31 (n : Nat) (hn : n < 256) : IntKind.u8.wrap (BitVec.ofInt IntKind.u8.bits (n : Int) &&& BitVec.ofInt IntKind.u8.bits 31).toNat = ((n % 32 : Nat) : Int) := by
  have := u8and n 31 hn (by omega); rw [Nat.and_two_pow_sub_one_eq_mod n 5] at this; exact this
theorem and15 (n : Nat) (hn : n < 256) : IntKind.u8.wrap (BitVec.ofInt IntKind.u8.bits (n : Int) &&& BitVec.ofInt IntKind.u8.bits 15).toNat = ((n % 16 : Nat) : Int) := by
  have := u8and n 15 hn (by omega); rw [Nat.and_two_pow_sub_one_eq_mod n 4] at this; exact this
theorem and7 (n : Nat) (hn : n < 256) : IntKind.u8.wrap (BitVec.ofInt IntKind.u8.bits (n : Int) &&& BitVec.ofInt IntKind.u8.bits 7).toNat = ((n % 8 : Nat) : Int) := by
  have := u8and n 7 hn (by omega); rw [Nat.and_two_pow_sub_one_eq_mod n 3] at this; exact this
theorem and63 (n : Nat) (hn : n < 256) : IntKind.u8.wrap (BitVec.ofInt IntKind.u8.bits (n : Int) &&& BitVec.ofInt IntKind.u8.bits 63).toNat = ((n % 64 : Nat) : Int) := by
  have := u8and n 63 hn (by omega); rw [Nat.and_two_pow_sub_one_eq_mod n 6] at this; exact this
theorem w32 (n : Nat) (h : n < 2147483648) : IntKind.i32.wrap (n : Int) = (n : Int) := by simp [IntKind.wrap, IntKind.bits, IntKind.signed]; omega
theorem shl32 (n k : Nat) (b : Int) (hb : b = (k : Int)) (hk : k ≤ 32) (h : n * 2 ^ k < 2147483648) : IntKind.i32.wrap ((n : Int) * 2 ^ min b.toNat IntKind.i32.bits) = ((n * 2 ^ k : Nat) : Int) := by
  subst hb
  rw [show min (k : Int).toNat IntKind.i32.bits = k from by simp [IntKind.bits]; omega]
  rw [show ((n : Int) * 2 ^ k) = ((n * 2 ^ k : Nat) : Int) from by simp]
  exact w32 _ h
theorem or32 (a b k : Nat) (hb : b < 2 ^ k) (hs : a * 2 ^ k + b < 2147483648) : IntKind.i32.wrap (BitVec.ofInt IntKind.i32.bits ((a * 2 ^ k : Nat) : Int) ||| BitVec.ofInt IntKind.i32.bits (b : Int)).toNat = ((a * 2 ^ k + b : Nat) : Int) := by
  rw [BitVec.toNat_or, ofInt_nat _ _ (by simp only [IntKind.bits]; omega), ofInt_nat _ _ (by simp only [IntKind.bits]; omega)]
  have := Nat.two_pow_add_eq_or_of_lt hb a
  rw [Nat.mul_comm a] at hs ⊢
  rw [← this]
  exact w32 _ hs
/-! ## a sign, by the tables -/
def byteAt (bs : List UInt8) (k : Nat) : Nat := (bs[k]?.getD 0).toNat
theorem byteAt_lt (bs : List UInt8) (k : Nat) : byteAt bs k < 256 := UInt8.toNat_lt _
def loN (r : Nat) : Nat := acceptL.getD (2 * r) 0
def hiN (r : Nat) : Nat := acceptL.getD (2 * r + 1) 0
theorem byteAt_get {bs : List UInt8} {k : Nat} (h : k < bs.length) : bs[k]? = some (bs[k]) ∧ byteAt bs k = (bs[k]).toNat := by
  have := List.getElem?_eq_getElem h
  exact ⟨this, by unfold byteAt; rw [this]; rfl⟩
def slowL (bs : List UInt8) : Nat × Nat :=
  if bs.length < 1 then (65533, 0) else
  if 240 ≤ firstN (byteAt bs 0) then (65533, 1) else
  if bs.length < firstN (byteAt bs 0) % 8 then (65533, 1) else
  if byteAt bs 1 < loN (firstN (byteAt bs 0) / 16) ∨ hiN (firstN (byteAt bs 0) / 16) < byteAt bs 1 then (65533, 1) else
  if firstN (byteAt bs 0) % 8 ≤ 2 then (byteAt bs 0 % 32 * 64 + byteAt bs 1 % 64, 2) else
  if byteAt bs 2 < 128 ∨ 191 < byteAt bs 2 then (65533, 1) else
  if firstN (byteAt bs 0) % 8 ≤ 3 then (byteAt bs 0 % 16 * 4096 + byteAt bs 1 % 64 * 64 + byteAt bs 2 % 64, 3) else
  if byteAt bs 3 < 128 ∨ 191 < byteAt bs 3 then (65533, 1) else
  (byteAt bs 0 % 8 * 262144 + byteAt bs 1 % 64 * 4096 + byteAt bs 2 % 64 * 64 + byteAt bs 3 % 64, 4)
def runeV (x : Nat × Nat) : Value := .tuple #[.int .i32 (x.1 : Int), .int .i64 (x.2 : Int)]
theorem loadPair {r : Nat} (hr : r < 16) : acceptC[2 * r]? = some (.int .u8 (loN r)) ∧ acceptC[2 * r + 1]? = some (.int .u8 (hiN r)) := by
  have h1 : acceptL[2 * r]? = some (loN r) := by
    unfold loN; rw [List.getD_eq_getElem?_getD, List.getElem?_eq_getElem (by simp [acceptL]; omega)]; rfl
  have h2 : acceptL[2 * r + 1]? = some (hiN r) := by
    unfold hiN; rw [List.getD_eq_getElem?_getD, List.getElem?_eq_getElem (by simp [acceptL]; omega)]; rfl
  unfold acceptC
  rw [List.getElem?_map, List.getElem?_map, h1, h2]
  exact ⟨rfl, rfl⟩
set_option maxHeartbeats 1600000
set_option maxRecDepth 20000
theorem decodeSlow_spec (bs : List UInt8) (h0 : bs.length < 1 ∨ 128 ≤ byteAt bs 0) (hl : bs.length ≤ 9223372036854775807) : Spec Tryd.prog 117 #[.string (str bs)] Utf [] fun r L => r = runeV (slowL bs) ∧ L = [] := by
  refine Spec.go (vs := [_]) (hT := tyOk) (hm := mixed0) Tryd.func117 rfl Tryd.ntmps117 rfl ?_
  rintro W p ⟨hT1, hT2⟩
  refine Good.on ?_
  rw [str_size]
  refine Good.ifD (fun h => ?_) (fun h => ?_) <;> refine Good.on ?_
  · refine Good.ret2 Tryd.results117 (Res.tmp rfl) (Res.tmp rfl) ⟨?_, rfl⟩ (fun _ h => h)
    rw [slowL, if_pos (by omega)]; rfl
  have hn : ¬ bs.length < 1 := by omega
  have h128 : 128 ≤ byteAt bs 0 := by omega
  obtain ⟨g0, e0⟩ := byteAt_get (bs := bs) (k := 0) (by omega)
  refine Good.val (Yv.index rfl rfl rfl rfl rfl (by omega) g0) ?_
  refine Good.on ?_
  rw [← e0]
  have hb0 := byteAt_lt bs 0
  refine Good.val (Yv.indexArr rfl rfl rfl rfl rfl rfl (by omega) (by omega)) ?_
  refine Good.on ?_
  refine Good.loadC (v := .int .u8 (firstN (byteAt bs 0))) (fun w hS => ?_) ?_
  · have := hT1.cell (firstC_get (byteAt bs 0) hb0) hS
    simpa [ti5] using this
  refine Good.on ?_
  have hc := firstN_cases (byteAt bs 0) h128
  refine Good.ifD (fun hx => ?_) (fun hx => ?_) <;> refine Good.on ?_
  · have hx : firstN (byteAt bs 0) = 241 := by omega
    rw [hx]
    refine Good.val (Yv.index rfl rfl rfl rfl rfl (by omega) g0) ?_
    refine Good.on ?_
    refine Good.ret2 Tryd.results117 (Res.tmp rfl) (Res.tmp rfl) ⟨?_, rfl⟩ (fun _ h => h)
    rw [slowL, if_neg hn, if_pos (by omega), ← e0]
    have key : ∀ b : Fin 256, IntKind.i32.wrap (BitVec.ofInt IntKind.i32.bits (IntKind.i32.wrap (BitVec.ofInt IntKind.i32.bits (IntKind.i32.wrap ((b.val : Nat) : Int)) &&& ~~~BitVec.ofInt IntKind.i32.bits ((IntKind.i32.wrap (IntKind.i32.wrap ((241 : Nat) : Int) * 2 ^ min (Int.toNat 31) IntKind.i32.bits)).fdiv (2 ^ min (Int.toNat 31) IntKind.i32.bits))).toNat) ||| BitVec.ofInt IntKind.i32.bits (IntKind.i32.wrap (BitVec.ofInt IntKind.i32.bits 65533 &&& BitVec.ofInt IntKind.i32.bits ((IntKind.i32.wrap (IntKind.i32.wrap ((241 : Nat) : Int) * 2 ^ min (Int.toNat 31) IntKind.i32.bits)).fdiv (2 ^ min (Int.toNat 31) IntKind.i32.bits))).toNat)).toNat = 65533 := by decide +kernel
    exact congrArg (fun x => Value.tuple #[.int .i32 x, .int .i64 1]) (key ⟨byteAt bs 0, hb0⟩)
  have hx : firstN (byteAt bs 0) < 240 := by omega
  have hsz : 2 ≤ firstN (byteAt bs 0) % 8 ∧ firstN (byteAt bs 0) % 8 ≤ 4 := by omega
  have hx16 : firstN (byteAt bs 0) / 16 < 16 := by omega
  generalize hxx : firstN (byteAt bs 0) = x at *
  rw [and7 x (by omega), w64 _ (by omega)]
  rw [show ((x : Nat) : Int).fdiv (2 ^ min (Int.toNat 4) IntKind.u8.bits) = ((x / 16 : Nat) : Int) from fdivPow x 4]
  refine Good.val (Yv.indexArr rfl rfl rfl rfl rfl rfl (by omega) (by omega)) ?_
  refine Good.on ?_
  refine Good.loadRd [.int .u8 (loN (x / 16)), .int .u8 (hiN (x / 16))] (fun w hS j v hj => ?_) ?_
  · obtain ⟨l1, l2⟩ := loadPair hx16
    have e : 0 + ((x / 16 : Nat) : Int).toNat * ti199.size = 2 * (x / 16) := by simp [ti199]; omega
    rw [e]
    match j, hj with
    | 0, hj => simp at hj; subst hj; exact hT2.cell l1 hS
    | 1, hj => simp at hj; subst hj; exact hT2.cell l2 hS
  refine Good.on ?_
  refine Good.alloc (fun g => ?_)
  ((repeat (refine Good.on ?_; first | refine Good.build ?_ | refine Good.load 0 ?_ | refine Good.load 1 ?_ | refine Good.load 2 ?_ | refine Good.load 3 ?_ | refine Good.load 4 ?_ | refine Good.load 5 ?_ | refine Good.load 6 ?_ | refine Good.load 7 ?_ | refine Good.store 0 ?_ | refine Good.store 1 ?_ | refine Good.store 2 ?_ | refine Good.store 3 ?_ | refine Good.store 4 ?_ | refine Good.store 5 ?_ | refine Good.store 6 ?_ | refine Good.store 7 ?_ | refine Good.loadRow 0 ?_ | refine Good.loadRow 1 ?_ | refine Good.loadRow 2 ?_ | refine Good.loadRow 3 ?_ | refine Good.loadRow 4 ?_ | refine Good.loadRow 5 ?_)); refine Good.on ?_)
  refine Good.ifD (fun hlen => ?_) (fun hlen => ?_) <;> refine Good.on ?_
  · refine Good.ret2 Tryd.results117 (Res.tmp rfl) (Res.tmp rfl) ⟨?_, rfl⟩ (fun _ h => h.tail)
    rw [slowL, if_neg hn, hxx, if_neg (by omega), if_pos (by omega)]; rfl
  have hlen : ¬ bs.length < x % 8 := by omega
  obtain ⟨g1, e1⟩ := byteAt_get (bs := bs) (k := 1) (by omega)
  have hb1 := byteAt_lt bs 1
  refine Good.val (Yv.index rfl rfl rfl rfl rfl (by omega) g1) ?_
  rw [← e1]
  ((repeat (refine Good.on ?_; first | refine Good.build ?_ | refine Good.load 0 ?_ | refine Good.load 1 ?_ | refine Good.load 2 ?_ | refine Good.load 3 ?_ | refine Good.load 4 ?_ | refine Good.load 5 ?_ | refine Good.load 6 ?_ | refine Good.load 7 ?_ | refine Good.store 0 ?_ | refine Good.store 1 ?_ | refine Good.store 2 ?_ | refine Good.store 3 ?_ | refine Good.store 4 ?_ | refine Good.store 5 ?_ | refine Good.store 6 ?_ | refine Good.store 7 ?_ | refine Good.loadRow 0 ?_ | refine Good.loadRow 1 ?_ | refine Good.loadRow 2 ?_ | refine Good.loadRow 3 ?_ | refine Good.loadRow 4 ?_ | refine Good.loadRow 5 ?_)); refine Good.on ?_)
  refine Good.partD (fun hlo => ?_) (fun hlo => ?_) <;> ((repeat (refine Good.on ?_; first | refine Good.build ?_ | refine Good.load 0 ?_ | refine Good.load 1 ?_ | refine Good.load 2 ?_ | refine Good.load 3 ?_ | refine Good.load 4 ?_ | refine Good.load 5 ?_ | refine Good.load 6 ?_ | refine Good.load 7 ?_ | refine Good.store 0 ?_ | refine Good.store 1 ?_ | refine Good.store 2 ?_ | refine Good.store 3 ?_ | refine Good.store 4 ?_ | refine Good.store 5 ?_ | refine Good.store 6 ?_ | refine Good.store 7 ?_ | refine Good.loadRow 0 ?_ | refine Good.loadRow 1 ?_ | refine Good.loadRow 2 ?_ | refine Good.loadRow 3 ?_ | refine Good.loadRow 4 ?_ | refine Good.loadRow 5 ?_)); refine Good.on ?_)
  · refine Good.ret2 Tryd.results117 (Res.tmp rfl) (Res.tmp rfl) ⟨?_, rfl⟩ (fun _ h => h.tail)
    rw [slowL, if_neg hn, hxx, if_neg (by omega), if_neg hlen, if_pos (by omega)]; rfl
  refine Good.ifD (fun hhi => ?_) (fun hhi => ?_) <;> refine Good.on ?_
  · refine Good.ret2 Tryd.results117 (Res.tmp rfl) (Res.tmp rfl) ⟨?_, rfl⟩ (fun _ h => h.tail)
    rw [slowL, if_neg hn, hxx, if_neg (by omega), if_neg hlen, if_pos (by omega)]; rfl
  have hok : ¬ (byteAt bs 1 < loN (x / 16) ∨ hiN (x / 16) < byteAt bs 1) := by omega
  refine Good.ifD (fun h2 => ?_) (fun h2 => ?_) <;> refine Good.on ?_
  · refine Good.ret2 Tryd.results117 (Res.tmp rfl) (Res.tmp rfl) ⟨?_, rfl⟩ (fun _ h => h.tail)
    rw [slowL, if_neg hn, hxx, if_neg (by omega), if_neg hlen, if_neg hok, if_pos (by omega)]
    rw [and31 _ hb0, and63 _ hb1, w32 (byteAt bs 0 % 32) (by omega), w32 (byteAt bs 1 % 64) (by omega), shl32 _ 6 6 rfl (by omega) (by omega), or32 _ _ 6 (by omega) (by omega)]
    rfl
  obtain ⟨g2, e2⟩ := byteAt_get (bs := bs) (k := 2) (by omega)
  have hb2 := byteAt_lt bs 2
  refine Good.val (Yv.index rfl rfl rfl rfl rfl (by omega) g2) ?_
  rw [← e2]
  refine Good.on ?_
  refine Good.partD (fun hlo2 => ?_) (fun hlo2 => ?_) <;> ((repeat (refine Good.on ?_; first | refine Good.build ?_ | refine Good.load 0 ?_ | refine Good.load 1 ?_ | refine Good.load 2 ?_ | refine Good.load 3 ?_ | refine Good.load 4 ?_ | refine Good.load 5 ?_ | refine Good.load 6 ?_ | refine Good.load 7 ?_ | refine Good.store 0 ?_ | refine Good.store 1 ?_ | refine Good.store 2 ?_ | refine Good.store 3 ?_ | refine Good.store 4 ?_ | refine Good.store 5 ?_ | refine Good.store 6 ?_ | refine Good.store 7 ?_ | refine Good.loadRow 0 ?_ | refine Good.loadRow 1 ?_ | refine Good.loadRow 2 ?_ | refine Good.loadRow 3 ?_ | refine Good.loadRow 4 ?_ | refine Good.loadRow 5 ?_)); refine Good.on ?_)
  · refine Good.ret2 Tryd.results117 (Res.tmp rfl) (Res.tmp rfl) ⟨?_, rfl⟩ (fun _ h => h.tail)
    rw [slowL, if_neg hn, hxx, if_neg (by omega), if_neg hlen, if_neg hok, if_neg (by omega), if_pos (by omega)]; rfl
  refine Good.ifD (fun hhi2 => ?_) (fun hhi2 => ?_) <;> refine Good.on ?_
  · refine Good.ret2 Tryd.results117 (Res.tmp rfl) (Res.tmp rfl) ⟨?_, rfl⟩ (fun _ h => h.tail)
    rw [slowL, if_neg hn, hxx, if_neg (by omega), if_neg hlen, if_neg hok, if_neg (by omega), if_pos (by omega)]; rfl
  have hok2 : ¬ (byteAt bs 2 < 128 ∨ 191 < byteAt bs 2) := by omega
  refine Good.ifD (fun h3 => ?_) (fun h3 => ?_) <;> refine Good.on ?_
  · refine Good.ret2 Tryd.results117 (Res.tmp rfl) (Res.tmp rfl) ⟨?_, rfl⟩ (fun _ h => h.tail)
    rw [slowL, if_neg hn, hxx, if_neg (by omega), if_neg hlen, if_neg hok, if_neg (by omega), if_neg hok2, if_pos (by omega)]
    rw [and15 _ hb0, and63 _ hb1, and63 _ hb2, w32 (byteAt bs 0 % 16) (by omega), w32 (byteAt bs 1 % 64) (by omega), w32 (byteAt bs 2 % 64) (by omega), shl32 _ 12 12 rfl (by omega) (by omega), shl32 _ 6 6 rfl (by omega) (by omega)]
    rw [or32 (byteAt bs 0 % 16) (byteAt bs 1 % 64 * 2 ^ 6) 12 (by omega) (by omega)]
    rw [show byteAt bs 0 % 16 * 2 ^ 12 + byteAt bs 1 % 64 * 2 ^ 6 = (byteAt bs 0 % 16 * 64 + byteAt bs 1 % 64) * 2 ^ 6 from by omega, or32 _ _ 6 (by omega) (by omega)]
    rw [show (byteAt bs 0 % 16 * 64 + byteAt bs 1 % 64) * 2 ^ 6 + byteAt bs 2 % 64 = byteAt bs 0 % 16 * 4096 + byteAt bs 1 % 64 * 64 + byteAt bs 2 % 64 from by omega]
    rfl
  obtain ⟨g3, e3⟩ := byteAt_get (bs := bs) (k := 3) (by omega)
  have hb3 := byteAt_lt bs 3
  refine Good.val (Yv.index rfl rfl rfl rfl rfl (by omega) g3) ?_
  rw [← e3]
  refine Good.on ?_
  refine Good.partD (fun hlo3 => ?_) (fun hlo3 => ?_) <;> ((repeat (refine Good.on ?_; first | refine Good.build ?_ | refine Good.load 0 ?_ | refine Good.load 1 ?_ | refine Good.load 2 ?_ | refine Good.load 3 ?_ | refine Good.load 4 ?_ | refine Good.load 5 ?_ | refine Good.load 6 ?_ | refine Good.load 7 ?_ | refine Good.store 0 ?_ | refine Good.store 1 ?_ | refine Good.store 2 ?_ | refine Good.store 3 ?_ | refine Good.store 4 ?_ | refine Good.store 5 ?_ | refine Good.store 6 ?_ | refine Good.store 7 ?_ | refine Good.loadRow 0 ?_ | refine Good.loadRow 1 ?_ | refine Good.loadRow 2 ?_ | refine Good.loadRow 3 ?_ | refine Good.loadRow 4 ?_ | refine Good.loadRow 5 ?_)); refine Good.on ?_)
  · refine Good.ret2 Tryd.results117 (Res.tmp rfl) (Res.tmp rfl) ⟨?_, rfl⟩ (fun _ h => h.tail)
    rw [slowL, if_neg hn, hxx, if_neg (by omega), if_neg hlen, if_neg hok, if_neg (by omega), if_neg hok2, if_neg (by omega), if_pos (by omega)]; rfl
  refine Good.ifD (fun hhi3 => ?_) (fun hhi3 => ?_) <;> refine Good.on ?_
  · refine Good.ret2 Tryd.results117 (Res.tmp rfl) (Res.tmp rfl) ⟨?_, rfl⟩ (fun _ h => h.tail)
    rw [slowL, if_neg hn, hxx, if_neg (by omega), if_neg hlen, if_neg hok, if_neg (by omega), if_neg hok2, if_neg (by omega), if_pos (by omega)]; rfl
  · refine Good.ret2 Tryd.results117 (Res.tmp rfl) (Res.tmp rfl) ⟨?_, rfl⟩ (fun _ h => h.tail)
    rw [slowL, if_neg hn, hxx, if_neg (by omega), if_neg hlen, if_neg hok, if_neg (by omega), if_neg hok2, if_neg (by omega), if_neg (by omega)]
    rw [and7 _ hb0, and63 _ hb1, and63 _ hb2, and63 _ hb3, w32 (byteAt bs 0 % 8) (by omega), w32 (byteAt bs 1 % 64) (by omega), w32 (byteAt bs 2 % 64) (by omega), w32 (byteAt bs 3 % 64) (by omega), shl32 _ 18 18 rfl (by omega) (by omega), shl32 _ 12 12 rfl (by omega) (by omega), shl32 _ 6 6 rfl (by omega) (by omega)]
    rw [or32 (byteAt bs 0 % 8) (byteAt bs 1 % 64 * 2 ^ 12) 18 (by omega) (by omega)]
    rw [show byteAt bs 0 % 8 * 2 ^ 18 + byteAt bs 1 % 64 * 2 ^ 12 = (byteAt bs 0 % 8 * 64 + byteAt bs 1 % 64) * 2 ^ 12 from by omega, or32 _ (byteAt bs 2 % 64 * 2 ^ 6) 12 (by omega) (by omega)]
    rw [show (byteAt bs 0 % 8 * 64 + byteAt bs 1 % 64) * 2 ^ 12 + byteAt bs 2 % 64 * 2 ^ 6 = ((byteAt bs 0 % 8 * 64 + byteAt bs 1 % 64) * 64 + byteAt bs 2 % 64) * 2 ^ 6 from by omega, or32 _ _ 6 (by omega) (by omega)]
    rw [show ((byteAt bs 0 % 8 * 64 + byteAt bs 1 % 64) * 64 + byteAt bs 2 % 64) * 2 ^ 6 + byteAt bs 3 % 64 = byteAt bs 0 % 8 * 262144 + byteAt bs 1 % 64 * 4096 + byteAt bs 2 % 64 * 64 + byteAt bs 3 % 64 from by omega]
    rfl
/-! ## the tables' answer is the form's -/
/-- The sign with which bytes begin, and how many it has. -/
def dec (bs : List UInt8) : Nat × Nat := Utf8.decode (str bs) 0
theorem get!_str (bs : List UInt8) (k : Nat) : ((str bs).get! k).toNat = byteAt bs k := by
  unfold byteAt
  congr 1
  show (str bs).data[k]! = _
  simp only [str]
  by_cases h : k < bs.length
  · simp [h]
  · simp [Array.getElem!_eq_getD, h]
    rfl
theorem decode_eq (bs : List UInt8) (i : Nat) : Utf8.decode (str bs) i = dec (bs.drop i) := by
  have e : ∀ k, (str bs).get! (i + k) = (str (bs.drop i)).get! (0 + k) := fun k => by
    apply UInt8.toNat_inj.1
    rw [get!_str, get!_str]
    unfold byteAt
    rw [Nat.zero_add, List.getElem?_drop]
  have f : ∀ k, (decide (i + k < (str bs).size)) = decide (0 + k < (str (bs.drop i)).size) := fun k => by
    simp only [str_size, List.length_drop, decide_eq_decide]; omega
  unfold dec Utf8.decode
  simp only [e, f]
theorem dec_core (n b0 q1 m1 q2 m2 q3 m3 c5 c4 c3 x y : Nat) (h1 : m1 < 64) (h2 : m2 < 64) (h3 : m3 < 64) (_hn : 0 < n) (hb : b0 < 256)
    (e5 : 192 ≤ b0 ∧ b0 < 224 → c5 + 192 = b0) (e4 : 224 ≤ b0 ∧ b0 < 240 → c4 + 224 = b0) (e3 : 240 ≤ b0 ∧ b0 < 248 → c3 + 240 = b0) (lo hi : Nat)
    (hc : (x = 241 ∧ 128 ≤ b0 ∧ (b0 < 194 ∨ 244 < b0)) ∨ (x = 2 ∧ y = 2 ∧ lo = 128 ∧ hi = 191 ∧ 194 ≤ b0 ∧ b0 < 224) ∨ (x = 19 ∧ y = 3 ∧ lo = 160 ∧ hi = 191 ∧ b0 = 224) ∨ (x = 35 ∧ y = 3 ∧ lo = 128 ∧ hi = 159 ∧ b0 = 237) ∨ (x = 3 ∧ y = 3 ∧ lo = 128 ∧ hi = 191 ∧ 224 < b0 ∧ b0 < 240 ∧ b0 ≠ 237) ∨ (x = 52 ∧ y = 4 ∧ lo = 144 ∧ hi = 191 ∧ b0 = 240) ∨ (x = 4 ∧ y = 4 ∧ lo = 128 ∧ hi = 191 ∧ 240 < b0 ∧ b0 < 244) ∨ (x = 68 ∧ y = 4 ∧ lo = 128 ∧ hi = 143 ∧ b0 = 244)) :
    (if (192 ≤ b0 ∧ b0 < 224) ∧ 1 < n ∧ q1 = 2 then (if 128 ≤ c5 * 64 + m1 then (c5 * 64 + m1, 2) else (65533, 1))
      else if ((224 ≤ b0 ∧ b0 < 240) ∧ 1 < n ∧ q1 = 2) ∧ 2 < n ∧ q2 = 2 then (if 2048 ≤ c4 * 4096 + m1 * 64 + m2 ∧ (c4 * 4096 + m1 * 64 + m2 < 55296 ∨ 57344 ≤ c4 * 4096 + m1 * 64 + m2 ∧ c4 * 4096 + m1 * 64 + m2 ≤ 1114111) then (c4 * 4096 + m1 * 64 + m2, 3) else (65533, 1))
      else if (((240 ≤ b0 ∧ b0 < 248) ∧ 1 < n ∧ q1 = 2) ∧ 2 < n ∧ q2 = 2) ∧ 3 < n ∧ q3 = 2 then (if 65536 ≤ c3 * 262144 + m1 * 4096 + m2 * 64 + m3 ∧ (c3 * 262144 + m1 * 4096 + m2 * 64 + m3 < 55296 ∨ 57344 ≤ c3 * 262144 + m1 * 4096 + m2 * 64 + m3 ∧ c3 * 262144 + m1 * 4096 + m2 * 64 + m3 ≤ 1114111) then (c3 * 262144 + m1 * 4096 + m2 * 64 + m3, 4) else (65533, 1))
      else (65533, 1)) =
    (if 240 ≤ x then (65533, 1) else if n < y then (65533, 1) else if 64 * q1 + m1 < lo ∨ hi < 64 * q1 + m1 then (65533, 1) else if y ≤ 2 then (c5 * 64 + m1, 2) else if 64 * q2 + m2 < 128 ∨ 191 < 64 * q2 + m2 then (65533, 1)
      else if y ≤ 3 then (c4 * 4096 + m1 * 64 + m2, 3) else if 64 * q3 + m3 < 128 ∨ 191 < 64 * q3 + m3 then (65533, 1) else (c3 * 262144 + m1 * 4096 + m2 * 64 + m3, 4)) := by
  by_cases p1 : (192 ≤ b0 ∧ b0 < 224) ∧ 1 < n ∧ q1 = 2
  · rw [if_pos p1]
    have := e5 p1.1
    by_cases p2 : 128 ≤ c5 * 64 + m1
    · rw [if_pos p2, if_neg (by omega), if_neg (by omega), if_neg (by omega), if_pos (by omega)]
    · rw [if_neg p2, if_pos (by omega)]
  rw [if_neg p1]
  by_cases p3 : ((224 ≤ b0 ∧ b0 < 240) ∧ 1 < n ∧ q1 = 2) ∧ 2 < n ∧ q2 = 2
  · rw [if_pos p3]
    have := e4 p3.1.1
    by_cases p2 : 2048 ≤ c4 * 4096 + m1 * 64 + m2 ∧ (c4 * 4096 + m1 * 64 + m2 < 55296 ∨ 57344 ≤ c4 * 4096 + m1 * 64 + m2 ∧ c4 * 4096 + m1 * 64 + m2 ≤ 1114111)
    · rw [if_pos p2, if_neg (by omega), if_neg (by omega), if_neg (by omega), if_neg (by omega), if_neg (by omega), if_pos (by omega)]
    · rw [if_neg p2, if_neg (by omega), if_neg (by omega), if_pos (by omega)]
  rw [if_neg p3]
  by_cases p4 : (((240 ≤ b0 ∧ b0 < 248) ∧ 1 < n ∧ q1 = 2) ∧ 2 < n ∧ q2 = 2) ∧ 3 < n ∧ q3 = 2
  · rw [if_pos p4]
    have := e3 p4.1.1.1
    by_cases p2 : 65536 ≤ c3 * 262144 + m1 * 4096 + m2 * 64 + m3 ∧ (c3 * 262144 + m1 * 4096 + m2 * 64 + m3 < 55296 ∨ 57344 ≤ c3 * 262144 + m1 * 4096 + m2 * 64 + m3 ∧ c3 * 262144 + m1 * 4096 + m2 * 64 + m3 ≤ 1114111)
    · rw [if_pos p2, if_neg (by omega), if_neg (by omega), if_neg (by omega), if_neg (by omega), if_neg (by omega), if_neg (by omega), if_neg (by omega)]
    · rw [if_neg p2]
      by_cases px : 240 ≤ x
      · rw [if_pos px]
      · rw [if_neg px, if_neg (by omega), if_pos (by omega)]
  rw [if_neg p4]
  by_cases px : 240 ≤ x
  · rw [if_pos px]
  rw [if_neg px]
  by_cases py : n < y
  · rw [if_pos py]
  rw [if_neg py]
  by_cases pl : 64 * q1 + m1 < lo ∨ hi < 64 * q1 + m1
  · rw [if_pos pl]
  rw [if_neg pl, if_neg (by omega)]
  by_cases p5 : 64 * q2 + m2 < 128 ∨ 191 < 64 * q2 + m2
  · rw [if_pos p5]
  rw [if_neg p5, if_neg (by omega), if_pos (by omega)]
end Go.Proofs.YtnfcbpgckomdfaaDoor
