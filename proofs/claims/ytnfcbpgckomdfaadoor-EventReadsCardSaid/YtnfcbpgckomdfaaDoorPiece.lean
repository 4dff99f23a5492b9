/- quote.piece: what stands at the front of what is between marks. -/
import Derived.Test.YtnfcbpgckomdfaaDoorQuoC
namespace Go.Proofs.YtnfcbpgckomdfaaDoor
/-- A sign's bytes. -/
def bytesOf (s : ByteArray) : List UInt8 := s.data.toList
theorem bytesOf_str (s : ByteArray) : s = str (bytesOf s) := rfl
def encL (n : Nat) : List UInt8 := bytesOf (Utf8.encode (n : Int))
theorem encL_str (n : Nat) : Utf8.encode (n : Int) = str (encL n) := bytesOf_str _
theorem iface_of {e : Value} (h : nilB e = some false) : ∃ t v, e = .iface t v := by cases e <;> simp [nilB] at h; exact ⟨_, _, rfl⟩
def pieceL (bs : List UInt8) : List UInt8 × Nat :=
  if byteAt bs 0 ≠ 92 then (bs.take 1, 1)
  else if 1 < bs.length ∧ (byteAt bs 1 = 34 ∨ byteAt bs 1 = 92) then ((bs.take 2).drop 1, 2)
  else if 3 < bs.length ∧ byteAt bs 1 = 120 then (match pu16 255 ((bs.take 4).drop 2) with
    | some n => ([UInt8.ofNat n], 4)
    | none => ([], 0))
  else if bs.take 3 = [92, 117, 123] then
    if Lib.indexByte bs 125 < 0 then ([], 0) else (match pu16 2147483647 ((bs.take (Lib.indexByte bs 125).toNat).drop 3) with
      | some n => (encL n, (Lib.indexByte bs 125).toNat + 1)
      | none => ([], 0))
  else ([], 0)
def pieceV (x : List UInt8 × Nat) : Value := .tuple #[.string (str x.1), .int .i64 (x.2 : Int)]
theorem indexByte_lt : ∀ (l : List UInt8) (c : UInt8), Lib.indexByte l c < l.length
  | [], c => by simp [Lib.indexByte]
  | b :: l, c => by
    have := indexByte_lt l c
    unfold Lib.indexByte
    split
    · simp
    · split
      · simp; omega
      · simp only [List.length_cons]; omega
theorem indexByte_skip (b c : UInt8) (l : List UInt8) (h : b ≠ c) (h0 : 0 ≤ Lib.indexByte (b :: l) c) : 0 ≤ Lib.indexByte l c ∧ Lib.indexByte (b :: l) c = Lib.indexByte l c + 1 := by
  have e : Lib.indexByte (b :: l) c = if Lib.indexByte l c == -1 then -1 else Lib.indexByte l c + 1 := by
    conv => lhs; unfold Lib.indexByte
    rw [if_neg (by simpa using h)]
  have hge := Lib.indexByte_ge l c
  rw [e] at h0 ⊢
  split at h0
  · omega
  · rename_i hn
    have hn' : Lib.indexByte l c ≠ -1 := by simpa using hn
    rw [if_neg hn]
    exact ⟨by omega, rfl⟩
theorem indexByte_three {bs : List UInt8} (h : bs.take 3 = [92, 117, 123]) (h0 : 0 ≤ Lib.indexByte bs 125) : 3 ≤ Lib.indexByte bs 125 := by
  obtain ⟨t, rfl⟩ : ∃ t, bs = 92 :: 117 :: 123 :: t := by
    match bs, h with
    | a :: b :: c :: t, h => simp at h; exact ⟨t, by rw [h.1, h.2.1, h.2.2]⟩
  obtain ⟨h1, e1⟩ := indexByte_skip 92 125 _ (by decide) h0
  obtain ⟨h2, e2⟩ := indexByte_skip 117 125 _ (by decide) h1
  obtain ⟨h3, e3⟩ := indexByte_skip 123 125 _ (by decide) h2
  omega
theorem puGo_le : ∀ (bs : List UInt8) (mx acc n : Nat), acc ≤ mx → puGo mx acc bs = some n → n ≤ mx
  | [], mx, acc, n, h, e => by simp [puGo] at e; omega
  | c :: r, mx, acc, n, h, e => by
    rw [puGo] at e
    split at e
    · cases e
    · split at e
      · cases e
      · split at e
        · cases e
        · exact puGo_le r mx _ n (by omega) e
theorem pu16_le {mx : Nat} {bs : List UInt8} {n : Nat} (e : pu16 mx bs = some n) : n ≤ mx := by
  unfold pu16 at e
  split at e
  · cases e
  · exact puGo_le _ _ _ _ (Nat.zero_le _) e
set_option maxHeartbeats 1600000
set_option maxRecDepth 20000
theorem piece_spec (bs : List UInt8) (h0 : bs ≠ []) (hl : bs.length ≤ 140737488355328) : Spec Tryd.prog 78 #[.string (str bs)] Env [] fun r L => r = pieceV (pieceL bs) ∧ ∃ L', L = L' := by
  refine Spec.go (vs := [_]) (hT := tyOk) (hm := mixed0) Tryd.func78 rfl Tryd.ntmps78 rfl ?_
  intro W p hF
  have hp : 0 < bs.length := List.length_pos_iff.2 h0
  obtain ⟨g0, e0⟩ := byteAt_get hp
  refine Good.on ?_
  refine Good.val (Yv.index rfl rfl rfl rfl rfl (by omega) g0) ?_
  rw [← e0]
  refine Good.on ?_
  refine Good.ifB (fun h => ?_) (fun h => ?_) <;> refine Good.on ?_
  · refine Good.val (Yv.sliceStr 0 1 rfl rfl rfl rfl rfl rfl rfl ⟨_, rfl⟩ (by omega) (by omega)) ?_
    rw [List.drop_zero]
    refine Good.on ?_
    refine Good.ret2 Tryd.results78 (Res.tmp rfl) (Res.tmp rfl) ⟨?_, _, rfl⟩ (fun _ h => h)
    have : byteAt bs 0 ≠ 92 := by intro e; rw [e] at h; exact absurd h (by decide)
    rw [pieceL, if_pos this]; rfl
  have hb : ¬ byteAt bs 0 ≠ 92 := by simp at h; omega
  rw [str_size]
  refine Good.partD (fun h1 => ?_) (fun h1 => ?_) <;> refine Good.on ?_
  · obtain ⟨g1, e1⟩ := byteAt_get (bs := bs) (k := 1) (by omega)
    refine Good.val (Yv.index rfl rfl rfl rfl rfl (by omega) g1) ?_
    rw [← e1]
    refine Good.on ?_
    refine Good.partB (fun h34 => ?_) (fun h34 => ?_) <;> refine Good.on ?_
    · have h34 : byteAt bs 1 = 34 := by simp at h34; omega
      refine Good.val (Yv.sliceStr 1 2 rfl rfl rfl rfl rfl rfl ⟨_, rfl⟩ ⟨_, rfl⟩ (by omega) (by omega)) ?_
      refine Good.on ?_
      refine Good.ret2 Tryd.results78 (Res.tmp rfl) (Res.tmp rfl) ⟨?_, _, rfl⟩ (fun _ h => h)
      rw [pieceL, if_neg hb, if_pos (by omega)]; rfl
    have h34 : byteAt bs 1 ≠ 34 := by intro e; rw [e] at h34; exact absurd h34 (by decide)
    refine Good.val (Yv.index rfl rfl rfl rfl rfl (by omega) g1) ?_
    rw [← e1]
    refine Good.on ?_
    refine Good.ifB (fun h92 => ?_) (fun h92 => ?_) <;> refine Good.on ?_
    · have h92 : byteAt bs 1 = 92 := by simp at h92; omega
      refine Good.val (Yv.sliceStr 1 2 rfl rfl rfl rfl rfl rfl ⟨_, rfl⟩ ⟨_, rfl⟩ (by omega) (by omega)) ?_
      refine Good.on ?_
      refine Good.ret2 Tryd.results78 (Res.tmp rfl) (Res.tmp rfl) ⟨?_, _, rfl⟩ (fun _ h => h)
      rw [pieceL, if_neg hb, if_pos (by omega)]; rfl
    have h92 : byteAt bs 1 ≠ 92 := by intro e; rw [e] at h92; exact absurd h92 (by decide)
    have hno : ¬ (1 < bs.length ∧ (byteAt bs 1 = 34 ∨ byteAt bs 1 = 92)) := by omega
    rw [str_size]
    refine Good.partD (fun h3 => ?_) (fun h3 => ?_) <;> refine Good.on ?_
    · refine Good.val (Yv.index rfl rfl rfl rfl rfl (by omega) g1) ?_
      rw [← e1]
      refine Good.on ?_
      refine Good.ifB (fun hx => ?_) (fun hx => ?_) <;> refine Good.on ?_
      · have hx : byteAt bs 1 = 120 := by simp at hx; omega
        refine Good.val (Yv.sliceStr 2 4 rfl rfl rfl rfl rfl rfl ⟨_, rfl⟩ ⟨_, rfl⟩ (by omega) (by omega)) ?_
        refine Good.on ?_
        refine Good.callK [] (parseUint_spec ((bs.take 4).drop 2) 8 255 (by omega) (by decide) (by simp; omega)) stays_env hF ck100 ?_
        rintro r L hr
        refine Good.mem (l' := []) (fun w h => Sat.dropL h) ?_
        cases hpu : pu16 255 ((bs.take 4).drop 2) with
        | some n =>
          rw [hpu] at hr
          subst hr
          have hn := pu16_le hpu
          refine Good.on ?_
          refine Good.val (Yv.ifaceNe rfl rfl rfl rfl rfl rfl) ?_
          refine Good.on ?_
          (refine Good.ifB (fun h => ?_) (fun h => ?_); exact absurd h (by decide))
          refine Good.on ?_
          rw [u8w n (by omega)]
          refine Good.op rfl (OpW.lit rfl rfl rfl fun g => ?_)
          refine Good.mem (l' := [slc 5 1 (.slice (some ⟨g, 0, none⟩) 1 1) (bytesC [(n : Int)])]) (fun w h => Sat.rowSlc rfl (by unfold maxLen; omega) h) ?_
          refine Good.on ?_
          refine Good.bytesStr 0 (ns := [(n : Int)]) ?_
          refine Good.on ?_
          refine Good.ret2 Tryd.results78 (Res.tmp rfl) (Res.tmp rfl) ⟨?_, _, rfl⟩ (fun _ h => h)
          rw [pieceL, if_neg hb, if_neg hno, if_pos (by omega), hpu]
          rfl
        | none =>
          rw [hpu] at hr
          obtain ⟨m, e, he, rfl⟩ := hr
          obtain ⟨te, ve, rfl⟩ := iface_of he
          refine Good.on ?_
          refine Good.val (Yv.ifaceNe (v := .iface te ve) rfl rfl rfl he rfl rfl) ?_
          refine Good.on ?_
          (refine Good.ifB (fun h => ?_) (fun h => ?_); rotate_left; exact absurd h (by decide))
          refine Good.on ?_
          refine Good.ret2 Tryd.results78 (Res.tmp rfl) (Res.tmp rfl) ⟨?_, _, rfl⟩ (fun _ h => h)
          rw [pieceL, if_neg hb, if_neg hno, if_pos (by omega), hpu]
          rfl
      have hnx : ¬ (3 < bs.length ∧ byteAt bs 1 = 120) := fun e => by rw [e.2] at hx; exact absurd hx (by decide)
      refine Good.callP [] (hasPrefix_spec bs [92, 117, 123]) ck101 ?_
      rintro r L ⟨rfl, rfl⟩
      refine Good.on ?_
      refine Good.ifD (fun hpre => ?_) (fun hpre => ?_) <;> refine Good.on ?_
      · refine Good.callP [] (indexByte_spec bs 125) ck102 ?_
        rintro r L ⟨rfl, rfl⟩
        refine Good.on ?_
        refine Good.ifD (fun hend => ?_) (fun hend => ?_) <;> refine Good.on ?_
        · refine Good.ret2 Tryd.results78 (Res.tmp rfl) (Res.tmp rfl) ⟨?_, _, rfl⟩ (fun _ h => h)
          rw [pieceL, if_neg hb, if_neg hno, if_neg hnx, if_pos (show bs.take 3 = [92, 117, 123] from hpre), if_pos hend]; rfl
        have h3e := indexByte_three hpre (by omega)
        have hle := indexByte_lt bs 125
        obtain ⟨k, hk⟩ : ∃ k : Nat, Lib.indexByte bs 125 = (k : Int) := ⟨(Lib.indexByte bs 125).toNat, by omega⟩
        rw [hk] at hend h3e hle ⊢
        refine Good.val (Yv.sliceStr 3 k rfl rfl rfl rfl rfl rfl ⟨_, rfl⟩ ⟨_, rfl⟩ (by omega) (by omega)) ?_
        refine Good.on ?_
        refine Good.callK [] (parseUint_spec ((bs.take k).drop 3) 31 2147483647 (by omega) (by decide) (by simp; omega)) stays_env hF ck100 ?_
        rintro r L hr
        refine Good.mem (l' := []) (fun w h => Sat.dropL h) ?_
        cases hpu : pu16 2147483647 ((bs.take k).drop 3) with
        | some n =>
          rw [hpu] at hr
          subst hr
          have hn := pu16_le hpu
          refine Good.on ?_
          refine Good.val (Yv.ifaceNe rfl rfl rfl rfl rfl rfl) ?_
          refine Good.on ?_
          (refine Good.ifB (fun h => ?_) (fun h => ?_); exact absurd h (by decide))
          refine Good.on ?_
          rw [w32 n (by omega)]
          refine Good.val (Yv.intStr rfl rfl rfl rfl rfl) ?_
          rw [encL_str]
          refine Good.on ?_
          refine Good.ret2 Tryd.results78 (Res.tmp rfl) (Res.tmp rfl) ⟨?_, _, rfl⟩ (fun _ h => h)
          rw [pieceL, if_neg hb, if_neg hno, if_neg hnx, if_pos (show bs.take 3 = [92, 117, 123] from hpre), if_neg (by rw [hk]; omega), hk, Int.toNat_natCast, hpu, w64 _ (by omega)]
          simp [pieceV, Ent.val]
        | none =>
          rw [hpu] at hr
          obtain ⟨m, e, he, rfl⟩ := hr
          obtain ⟨te, ve, rfl⟩ := iface_of he
          refine Good.on ?_
          refine Good.val (Yv.ifaceNe (v := .iface te ve) rfl rfl rfl he rfl rfl) ?_
          refine Good.on ?_
          (refine Good.ifB (fun h => ?_) (fun h => ?_); rotate_left; exact absurd h (by decide))
          refine Good.on ?_
          refine Good.ret2 Tryd.results78 (Res.tmp rfl) (Res.tmp rfl) ⟨?_, _, rfl⟩ (fun _ h => h)
          rw [pieceL, if_neg hb, if_neg hno, if_neg hnx, if_pos (show bs.take 3 = [92, 117, 123] from hpre), if_neg (by rw [hk]; omega), hk, Int.toNat_natCast, hpu]
          rfl
      · refine Good.ret2 Tryd.results78 (Res.tmp rfl) (Res.tmp rfl) ⟨?_, _, rfl⟩ (fun _ h => h)
        rw [pieceL, if_neg hb, if_neg hno, if_neg hnx, if_neg (show ¬ bs.take 3 = [92, 117, 123] from hpre)]; rfl
    have hnx : ¬ (3 < bs.length ∧ byteAt bs 1 = 120) := by omega
    refine Good.callP [] (hasPrefix_spec bs [92, 117, 123]) ck101 ?_
    rintro r L ⟨rfl, rfl⟩
    refine Good.on ?_
    refine Good.ifD (fun hpre => ?_) (fun hpre => ?_) <;> refine Good.on ?_
    · refine Good.callP [] (indexByte_spec bs 125) ck102 ?_
      rintro r L ⟨rfl, rfl⟩
      refine Good.on ?_
      refine Good.ifD (fun hend => ?_) (fun hend => ?_) <;> refine Good.on ?_
      · refine Good.ret2 Tryd.results78 (Res.tmp rfl) (Res.tmp rfl) ⟨?_, _, rfl⟩ (fun _ h => h)
        rw [pieceL, if_neg hb, if_neg hno, if_neg hnx, if_pos (show bs.take 3 = [92, 117, 123] from hpre), if_pos hend]; rfl
      have h3e := indexByte_three hpre (by omega)
      have hle := indexByte_lt bs 125
      obtain ⟨k, hk⟩ : ∃ k : Nat, Lib.indexByte bs 125 = (k : Int) := ⟨(Lib.indexByte bs 125).toNat, by omega⟩
      rw [hk] at hend h3e hle ⊢
      refine Good.val (Yv.sliceStr 3 k rfl rfl rfl rfl rfl rfl ⟨_, rfl⟩ ⟨_, rfl⟩ (by omega) (by omega)) ?_
      refine Good.on ?_
      refine Good.callK [] (parseUint_spec ((bs.take k).drop 3) 31 2147483647 (by omega) (by decide) (by simp; omega)) stays_env hF ck100 ?_
      rintro r L hr
      refine Good.mem (l' := []) (fun w h => Sat.dropL h) ?_
      cases hpu : pu16 2147483647 ((bs.take k).drop 3) with
      | some n =>
        rw [hpu] at hr
        subst hr
        have hn := pu16_le hpu
        refine Good.on ?_
        refine Good.val (Yv.ifaceNe rfl rfl rfl rfl rfl rfl) ?_
        refine Good.on ?_
        (refine Good.ifB (fun h => ?_) (fun h => ?_); exact absurd h (by decide))
        refine Good.on ?_
        rw [w32 n (by omega)]
        refine Good.val (Yv.intStr rfl rfl rfl rfl rfl) ?_
        rw [encL_str]
        refine Good.on ?_
        refine Good.ret2 Tryd.results78 (Res.tmp rfl) (Res.tmp rfl) ⟨?_, _, rfl⟩ (fun _ h => h)
        rw [pieceL, if_neg hb, if_neg hno, if_neg hnx, if_pos (show bs.take 3 = [92, 117, 123] from hpre), if_neg (by rw [hk]; omega), hk, Int.toNat_natCast, hpu, w64 _ (by omega)]
        simp [pieceV, Ent.val]
      | none =>
        rw [hpu] at hr
        obtain ⟨m, e, he, rfl⟩ := hr
        obtain ⟨te, ve, rfl⟩ := iface_of he
        refine Good.on ?_
        refine Good.val (Yv.ifaceNe (v := .iface te ve) rfl rfl rfl he rfl rfl) ?_
        refine Good.on ?_
        (refine Good.ifB (fun h => ?_) (fun h => ?_); rotate_left; exact absurd h (by decide))
        refine Good.on ?_
        refine Good.ret2 Tryd.results78 (Res.tmp rfl) (Res.tmp rfl) ⟨?_, _, rfl⟩ (fun _ h => h)
        rw [pieceL, if_neg hb, if_neg hno, if_neg hnx, if_pos (show bs.take 3 = [92, 117, 123] from hpre), if_neg (by rw [hk]; omega), hk, Int.toNat_natCast, hpu]
        rfl
    · refine Good.ret2 Tryd.results78 (Res.tmp rfl) (Res.tmp rfl) ⟨?_, _, rfl⟩ (fun _ h => h)
      rw [pieceL, if_neg hb, if_neg hno, if_neg hnx, if_neg (show ¬ bs.take 3 = [92, 117, 123] from hpre)]; rfl
  · have hno : ¬ (1 < bs.length ∧ (byteAt bs 1 = 34 ∨ byteAt bs 1 = 92)) := by omega
    rw [str_size]
    refine Good.partD (fun h3 => ?_) (fun h3 => ?_)
    · omega
    refine Good.on ?_
    have hnx : ¬ (3 < bs.length ∧ byteAt bs 1 = 120) := by omega
    refine Good.callP [] (hasPrefix_spec bs [92, 117, 123]) ck101 ?_
    rintro r L ⟨rfl, rfl⟩
    refine Good.on ?_
    refine Good.ifD (fun hpre => ?_) (fun hpre => ?_) <;> refine Good.on ?_
    · refine Good.callP [] (indexByte_spec bs 125) ck102 ?_
      rintro r L ⟨rfl, rfl⟩
      refine Good.on ?_
      refine Good.ifD (fun hend => ?_) (fun hend => ?_) <;> refine Good.on ?_
      · refine Good.ret2 Tryd.results78 (Res.tmp rfl) (Res.tmp rfl) ⟨?_, _, rfl⟩ (fun _ h => h)
        rw [pieceL, if_neg hb, if_neg hno, if_neg hnx, if_pos (show bs.take 3 = [92, 117, 123] from hpre), if_pos hend]; rfl
      have h3e := indexByte_three hpre (by omega)
      have hle := indexByte_lt bs 125
      obtain ⟨k, hk⟩ : ∃ k : Nat, Lib.indexByte bs 125 = (k : Int) := ⟨(Lib.indexByte bs 125).toNat, by omega⟩
      rw [hk] at hend h3e hle ⊢
      refine Good.val (Yv.sliceStr 3 k rfl rfl rfl rfl rfl rfl ⟨_, rfl⟩ ⟨_, rfl⟩ (by omega) (by omega)) ?_
      refine Good.on ?_
      refine Good.callK [] (parseUint_spec ((bs.take k).drop 3) 31 2147483647 (by omega) (by decide) (by simp; omega)) stays_env hF ck100 ?_
      rintro r L hr
      refine Good.mem (l' := []) (fun w h => Sat.dropL h) ?_
      cases hpu : pu16 2147483647 ((bs.take k).drop 3) with
      | some n =>
        rw [hpu] at hr
        subst hr
        have hn := pu16_le hpu
        refine Good.on ?_
        refine Good.val (Yv.ifaceNe rfl rfl rfl rfl rfl rfl) ?_
        refine Good.on ?_
        (refine Good.ifB (fun h => ?_) (fun h => ?_); exact absurd h (by decide))
        refine Good.on ?_
        rw [w32 n (by omega)]
        refine Good.val (Yv.intStr rfl rfl rfl rfl rfl) ?_
        rw [encL_str]
        refine Good.on ?_
        refine Good.ret2 Tryd.results78 (Res.tmp rfl) (Res.tmp rfl) ⟨?_, _, rfl⟩ (fun _ h => h)
        rw [pieceL, if_neg hb, if_neg hno, if_neg hnx, if_pos (show bs.take 3 = [92, 117, 123] from hpre), if_neg (by rw [hk]; omega), hk, Int.toNat_natCast, hpu, w64 _ (by omega)]
        simp [pieceV, Ent.val]
      | none =>
        rw [hpu] at hr
        obtain ⟨m, e, he, rfl⟩ := hr
        obtain ⟨te, ve, rfl⟩ := iface_of he
        refine Good.on ?_
        refine Good.val (Yv.ifaceNe (v := .iface te ve) rfl rfl rfl he rfl rfl) ?_
        refine Good.on ?_
        (refine Good.ifB (fun h => ?_) (fun h => ?_); rotate_left; exact absurd h (by decide))
        refine Good.on ?_
        refine Good.ret2 Tryd.results78 (Res.tmp rfl) (Res.tmp rfl) ⟨?_, _, rfl⟩ (fun _ h => h)
        rw [pieceL, if_neg hb, if_neg hno, if_neg hnx, if_pos (show bs.take 3 = [92, 117, 123] from hpre), if_neg (by rw [hk]; omega), hk, Int.toNat_natCast, hpu]
        rfl
    · refine Good.ret2 Tryd.results78 (Res.tmp rfl) (Res.tmp rfl) ⟨?_, _, rfl⟩ (fun _ h => h)
      rw [pieceL, if_neg hb, if_neg hno, if_neg hnx, if_neg (show ¬ bs.take 3 = [92, 117, 123] from hpre)]; rfl
end Go.Proofs.YtnfcbpgckomdfaaDoor
