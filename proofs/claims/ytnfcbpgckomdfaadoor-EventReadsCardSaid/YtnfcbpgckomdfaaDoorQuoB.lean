/- Numbers to the base 16, as texts; bytes written into a builder. -/
import Derived.Test.YtnfcbpgckomdfaaDoorQuoA
import Derived.Test.YtnfcbpgckomdfaaDoorCrc
namespace Go.Proofs.YtnfcbpgckomdfaaDoor
open Go.Lib (strCells)
set_option maxHeartbeats 1600000
set_option maxRecDepth 20000
theorem digits_get (d : Nat) (h : d < 16) : ([48,49,50,51,52,53,54,55,56,57,97,98,99,100,101,102,103,104,105,106,107,108,109,110,111,112,113,114,115,116,117,118,119,120,121,122] : List UInt8)[d]? = some (hexD d) := by
  have : ∀ d : Fin 16, ([48,49,50,51,52,53,54,55,56,57,97,98,99,100,101,102,103,104,105,106,107,108,109,110,111,112,113,114,115,116,117,118,119,120,121,122] : List UInt8)[d.val]? = some (hexD d.val) := by decide
  exact this ⟨d, h⟩
/-- A buffer whose end is filled in. -/
def tailB (i : Nat) (ys : List UInt8) : List Value := List.replicate i (Value.int .u8 0) ++ strCells (str ys)
theorem tailB_set (i : Nat) (ys : List UInt8) (b : UInt8) : listSet (tailB (i + 1) ys) i [Value.int .u8 b.toNat] = some (tailB i (b :: ys)) := by
  have : tailB (i + 1) ys = List.replicate i (Value.int .u8 0) ++ Value.int .u8 0 :: strCells (str ys) := by
    unfold tailB
    rw [List.replicate_succ', List.append_assoc]; rfl
  rw [this, listSet_at _ _ _ _ i (by simp)]
  rfl
theorem tailB_get (i : Nat) (ys : List UInt8) (j : Nat) (u : UInt8) (h : ys[j]? = some u) : (tailB i ys)[i + j]? = some (.int .u8 u.toNat) := by
  unfold tailB
  rw [List.getElem?_append_right (by simp), List.length_replicate, Nat.add_sub_cancel_left, strCells_str]
  simp [h]
theorem and15_64 (n : Nat) (h : n < 18446744073709551616) : IntKind.u64.wrap (BitVec.ofInt IntKind.u64.bits (n : Int) &&& BitVec.ofInt IntKind.u64.bits (IntKind.u64.wrap (IntKind.u64.wrap 16 - 1))).toNat = ((n % 16 : Nat) : Int) := by
  have := andU (k := .u64) rfl n 15 (by simp only [IntKind.bits]; omega) (by decide)
  rw [Nat.and_two_pow_sub_one_eq_mod n 4] at this
  exact this
theorem shr4_64 (n : Nat) : binE .shr (.int .u64 (n : Int)) (.int .u64 (IntKind.u64.wrap 4)) = some (.int .u64 ((n / 16 : Nat) : Int)) := by
  have : binE .shr (.int .u64 (n : Int)) (.int .u64 (IntKind.u64.wrap 4)) = some (.int .u64 ((n : Int).fdiv (2 ^ 4))) := rfl
  rw [this, fdivPow n 4]
theorem log16_lt {i n : Nat} (h : n < 16 ^ (i + 1)) (_h16 : 16 ≤ n) : n / 16 < 16 ^ i := by rw [Nat.div_lt_iff_lt_mul (by omega)]; rw [Nat.pow_succ] at h; exact h
theorem formatBits_spec (n : Nat) (hn : n < 18446744073709551616) : Spec Tryd.prog 121 #[.slice none 0 0, .int .u64 (n : Int), .int .i64 16, .bool false, .bool false] Env [] fun r L => r = .tuple #[.slice none 0 0, .string (str (hexL n))] ∧ ∃ A, L = [A] := by
  refine Spec.go (vs := [_, _, _, _, _]) (hT := tyOk) (hm := mixed0) Tryd.func121 rfl Tryd.ntmps121 rfl ?_
  intro W p hF
  refine Good.on ?_
  (refine Good.partB (fun h => ?_) (fun h => ?_); exact absurd h (by decide))
  refine Good.on ?_
  (refine Good.partB (fun h => ?_) (fun h => ?_); exact absurd h (by decide))
  refine Good.on ?_
  (refine Good.ifB (fun h => ?_) (fun h => ?_); exact absurd h (by decide))
  refine Good.on ?_
  refine Good.alloc (us := tailB 65 []) (fun g => ?_)
  refine Good.on ?_
  (refine Good.ifB (fun h => ?_) (fun h => ?_); exact absurd h (by decide))
  refine Good.on ?_
  refine Good.callP [] isPow_spec ck139 ?_
  rintro r L ⟨rfl, rfl⟩
  refine Good.on ?_
  (refine Good.ifB (fun h => ?_) (fun h => ?_); rotate_left; exact absurd h (by decide))
  refine Good.on ?_
  refine Good.callK [] tz_spec stays_env hF ck140 ?_
  rintro r L ⟨rfl, rfl⟩
  refine Good.on ?_
  have e16 : (16 : Nat) ^ 16 = 18446744073709551616 := by decide
  refine Good.loop (ι := Nat × Nat × List UInt8) (fun x => [(0, .v (.slice none 0 0)), (1, .v (.int .u64 (x.2.1 : Int))), (3, .f), (4, .f), (10, .v (.slice none 0 0)), (12, .v (.pointer (some ⟨g, 0, none⟩))), (13, .v (.int .i64 (x.1 + 50 : Nat))), (14, .v (.int .u64 (IntKind.u64.wrap 4))), (15, .v (.int .u64 (IntKind.u64.wrap 16))), (16, .v (.int .u64 (IntKind.u64.wrap (IntKind.u64.wrap 16 - 1))))]) (fun x => [HP.row g (tailB (x.1 + 50) x.2.2) 203])
    (fun x => x.2.1 < 16 ^ (x.1 + 1) ∧ x.1 + x.2.2.length = 15 ∧ hexL x.2.1 ++ x.2.2 = hexL n) (fun x => x.2.1) (15, n, []) ⟨by rw [e16]; exact hn, rfl, by simp⟩ ⟨rfl, rfl, rfl, rfl, rfl, rfl, rfl, rfl, rfl, rfl, trivial⟩ (fun _ h => h) ?_
  rintro ⟨i, u, ys⟩ ⟨hu, hlen, hh⟩
  dsimp only at hu hlen hh ⊢
  have hu64 : u < 18446744073709551616 := by
    have : (16 : Nat) ^ (i + 1) ≤ 16 ^ 16 := Nat.pow_le_pow_right (by omega) (by omega)
    omega
  refine Good.on ?_
  rw [show IntKind.u64.wrap 16 = 16 from rfl]
  refine Good.ifD (fun h => ?_) (fun h => ?_) <;> refine Good.on ?_
  · have h16 : 16 ≤ u := by omega
    obtain ⟨i, rfl⟩ : ∃ k, i = k + 1 := by
      cases i with
      | zero => simp at hu; omega
      | succ k => exact ⟨k, rfl⟩
    have hm : u % 16 < 16 := Nat.mod_lt _ (by omega)
    rw [show IntKind.u64.wrap (BitVec.ofInt IntKind.u64.bits (u : Int) &&& BitVec.ofInt IntKind.u64.bits (IntKind.u64.wrap (16 - 1))).toNat = ((u % 16 : Nat) : Int) from and15_64 u hu64]
    refine Good.val (Yv.index (b := hexD (u % 16)) rfl rfl rfl rfl rfl (by omega) (digits_get _ hm)) ?_
    refine Good.on ?_
    rw [show IntKind.i64.wrap (((i + 1 + 50 : Nat) : Int) - 1) = ((i + 50 : Nat) : Int) from by rw [w64 _ (by omega)]; omega]
    refine Good.val (Yv.indexArr rfl rfl rfl rfl rfl rfl (by omega) (by omega)) ?_
    refine Good.on ?_
    refine Good.store 0 (r := tailB (i + 50) (hexD (u % 16) :: ys)) ?_ (hs := ?_)
    rotate_left
    · have := tailB_set (i + 50) ys (hexD (u % 16))
      rw [show 0 + ((i + 50 : Nat) : Int).toNat * ti5.size = i + 50 from by simp [ti5]; omega]
      exact this
    refine Good.on ?_
    refine Good.val (Yv.bin rfl rfl rfl (shr4_64 u)) ?_
    refine Good.on ?_
    refine Good.again (i, u / 16, hexD (u % 16) :: ys) ⟨⟨log16_lt hu h16, by simp at hlen ⊢; omega, ?_⟩, by dsimp only; omega⟩ ⟨rfl, rfl, rfl, rfl, rfl, rfl, rfl, rfl, rfl, rfl, trivial⟩ (fun _ h => h)
    dsimp only
    rw [← hh, hexL_ge (n := u) (by omega)]; simp
  · have h16 : u < 16 := by omega
    rw [show IntKind.i64.wrap (((i + 50 : Nat) : Int) - 1) = ((i + 49 : Nat) : Int) from by rw [w64 _ (by omega)]; omega]
    refine Good.val (Yv.index (b := hexD u) rfl rfl rfl rfl rfl (by omega) (digits_get _ h16)) ?_
    refine Good.on ?_
    refine Good.val (Yv.indexArr rfl rfl rfl rfl rfl rfl (by omega) (by omega)) ?_
    refine Good.on ?_
    refine Good.store 0 (r := tailB (i + 49) (hexD u :: ys)) ?_ (hs := ?_)
    rotate_left
    · have := tailB_set (i + 49) ys (hexD u)
      rw [show 0 + ((i + 49 : Nat) : Int).toNat * ti5.size = i + 49 from by simp [ti5]; omega]
      exact this
    refine Good.on ?_
    refine Good.val (Yv.sliceArr (i + 49) 65 rfl rfl rfl rfl rfl rfl rfl ⟨_, rfl⟩ rfl (by omega) (by omega)) ?_
    refine Good.on ?_
    refine Good.rowStr 0 (off := i + 49) (m := 65 - (i + 49)) (c := 65 - (i + 49)) (bs := hexD u :: ys) (fun j b hb => tailB_get _ _ _ _ hb) (by simp; omega) ?_ (hv := ?_)
    rotate_left
    · rw [if_neg (by omega), addr_add, Nat.zero_add]
      simp [ti5, Ent.val]
    refine Good.on ?_
    refine Good.ret2 Tryd.results121 (Res.tmp rfl) (Res.tmp rfl) ⟨?_, _, rfl⟩ (fun _ h => h)
    rw [← hh, hexL_lt h16]; rfl
theorem iFormatInt_spec (n : Nat) (hn : n < 9223372036854775808) : Spec Tryd.prog 98 #[.int .i64 (n : Int), .int .i64 16] Env [] fun r L => r = .string (str (hexL n)) ∧ ∃ A, L = [A] := by
  refine Spec.go (vs := [_, _]) (hT := tyOk) (hm := mixed0) Tryd.func98 rfl Tryd.ntmps98 rfl ?_
  intro W p hF
  refine Good.on ?_
  (refine Good.ifB (fun h => ?_) (fun h => ?_); exact absurd h (by decide))
  refine Good.on ?_
  rw [u64w n (by omega)]
  refine Good.know (X := True) (fun _ _ => trivial) fun _ => ?_
  have hneg : decide ((n : Int) < 0) = false := by simp
  rw [hneg]
  refine Good.callK [] (formatBits_spec n (by omega)) stays_env hF ck121 ?_
  rintro r L ⟨rfl, A, rfl⟩
  refine Good.on ?_
  refine Good.ret1 Tryd.results98 (Res.tmp rfl) ⟨rfl, _, rfl⟩ (fun _ h => h)
theorem formatInt_spec (n : Nat) (hn : n < 9223372036854775808) : Spec Tryd.prog 75 #[.int .i64 (n : Int), .int .i64 16] Env [] fun r L => r = .string (str (hexL n)) ∧ ∃ A, L = [A] := by
  refine Spec.go (vs := [_, _]) (hT := tyOk) (hm := mixed0) Tryd.func75 rfl Tryd.ntmps75 rfl ?_
  intro W p hF
  refine Good.on ?_
  refine Good.callK [] (iFormatInt_spec n hn) stays_env hF ck98 ?_
  rintro r L ⟨rfl, A, rfl⟩
  refine Good.on ?_
  refine Good.ret1 Tryd.results75 (Res.tmp rfl) ⟨rfl, _, rfl⟩ (fun _ h => h)
end Go.Proofs.YtnfcbpgckomdfaaDoor
