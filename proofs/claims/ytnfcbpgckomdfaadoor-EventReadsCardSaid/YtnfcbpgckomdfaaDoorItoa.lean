/- strconv.Itoa. -/
import Derived.Test.YtnfcbpgckomdfaaDoorDecB
namespace Go.Proofs.YtnfcbpgckomdfaaDoor
open Go.Lib (strCells)
theorem Sat.clear {W w : World} {p : Hl} {l : List HP} (s : Sat W p l w) : Sat W p [] w := Sat.dropL (L := l) (by rw [List.append_nil]; exact s)
theorem repl_split (k : Nat) (h : k ≤ 23) : List.replicate 24 (Value.int .u8 0) = List.replicate (1 + k) (Value.int .u8 0) ++ List.replicate (23 - k) (Value.int .u8 0) := by
  rw [List.replicate_append_replicate]; congr 1; omega
theorem cells_at (x : Value) (ys : List UInt8) (post : List Value) (j : Nat) (b : UInt8) (h : ys[j]? = some b) : (x :: (strCells (str ys) ++ post))[1 + j]? = some (.int .u8 b.toNat) := by
  rw [Nat.add_comm, List.getElem?_cons_succ, List.getElem?_append_left (by rw [strCells_len]; exact (List.getElem?_eq_some_iff.1 h).1), strCells_str]
  simp [h]
set_option maxHeartbeats 1600000
set_option maxRecDepth 20000
theorem formatInt10_spec (n : Int) (hn : -9223372036854775808 ≤ n ∧ n ≤ 9223372036854775807) : Spec Tryd.prog 98 #[.int .i64 n, .int .i64 10] Env [] fun r L => r = .string (str (itoaL n)) ∧ ∃ L', L = L' := by
  refine Spec.go (vs := [_, _]) (hT := tyOk) (hm := mixed0) Tryd.func98 rfl Tryd.ntmps98 rfl ?_
  intro W p hF
  refine Good.on ?_
  (refine Good.ifB (fun h => ?_) (fun h => ?_); rotate_left; exact absurd h (by decide))
  refine Good.on ?_
  refine Good.partD (fun h0 => ?_) (fun h0 => ?_) <;> refine Good.on ?_
  · refine Good.ifD (fun h100 => ?_) (fun h100 => ?_) <;> refine Good.on ?_
    · obtain ⟨m, rfl⟩ := Int.eq_ofNat_of_zero_le h0
      refine Good.callP [] (small_spec m (by omega)) ck118 ?_
      rintro r L ⟨rfl, rfl⟩
      refine Good.on ?_
      refine Good.ret1 Tryd.results98 (Res.tmp rfl) ⟨?_, _, rfl⟩ (fun _ h => h)
      rw [itoaL, if_neg (by omega)]; rfl
    · obtain ⟨m, rfl⟩ := Int.eq_ofNat_of_zero_le h0
      have hm : 0 < m ∧ m < 18446744073709551616 := by omega
      obtain ⟨k, hk, hk1, hk2, hk3⟩ := ndL_ok m hm.1 hm.2
      refine Good.alloc (us := List.replicate 24 (.int .u8 0)) (fun g => ?_)
      refine Good.on ?_
      rw [u64w m (by omega)]
      refine Good.ifD (fun hneg => ?_) (fun hneg => ?_)
      · omega
      refine Good.on ?_
      refine Good.callK [] (numDigits_spec m (by omega)) stays_env hF ck119 ?_
      rintro r L ⟨rfl, rfl⟩
      refine Good.on ?_
      rw [hk, show IntKind.i64.wrap (1 + ((k + 1 : Nat) : Int)) = ((k + 2 : Nat) : Int) from by rw [w64 _ (by omega)]; omega]
      refine Good.val (Yv.sliceArr 1 (k + 2) rfl rfl rfl rfl rfl rfl rfl ⟨_, rfl⟩ ⟨_, rfl⟩ (by omega) (by omega)) ?_
      rw [if_neg (by omega), addr_add, show 0 + 1 * ti5.size = 1 from rfl, show k + 2 - 1 = k + 1 from by omega]
      refine Good.on ?_
      rw [repl_split (k + 1) (by omega)]
      refine Good.callP [0] (formatBase10_spec g 1 (k + 1) (24 - 1) (List.replicate (1 + (k + 1)) (.int .u8 0)) (List.replicate (23 - (k + 1)) (.int .u8 0)) m (by omega) hk1 (by omega) (by simp)) ck120 ?_
      rintro r L ⟨rfl, rfl⟩
      rw [decK_decL k m hk1 hk2]
      have hlen : (decL m).length = k + 1 := by rw [← decK_decL k m hk1 hk2, decK_len]
      refine Good.on ?_
      refine Good.ifD (fun hneg => ?_) (fun hneg => ?_)
      · omega
      refine Good.on ?_
      rw [show IntKind.i64.wrap (1 + ((k + 1 : Nat) : Int)) = ((k + 2 : Nat) : Int) from by rw [w64 _ (by omega)]; omega]
      refine Good.val (Yv.sliceArr 1 (k + 2) rfl rfl rfl rfl rfl rfl rfl ⟨_, rfl⟩ ⟨_, rfl⟩ (by omega) (by omega)) ?_
      rw [if_neg (by omega), addr_add, show 0 + 1 * ti5.size = 1 from rfl, show k + 2 - 1 = k + 1 from by omega]
      refine Good.on ?_
      refine Good.rowStr 0 (off := 1) (m := k + 1) (c := 24 - 1) (bs := decL m) (fun j b hb => ?_) hlen.symm ?_
      · have e : (List.replicate (1 + (k + 1)) (Value.int .u8 0)).take 1 = [.int .u8 0] := by
          rw [Nat.add_comm, List.replicate_succ]; rfl
        rw [e]; exact cells_at _ _ _ _ _ hb
      refine Good.on ?_
      refine Good.ret1 Tryd.results98 (Res.tmp rfl) ⟨?_, _, rfl⟩ (fun _ h => h)
      rw [itoaL, if_neg (by omega)]; rfl
  · have hneg : n < 0 := by omega
    obtain ⟨m, hm⟩ : ∃ m : Nat, n = -(m : Int) := ⟨(-n).toNat, by omega⟩
    have hm0 : 0 < m ∧ m ≤ 9223372036854775808 := by omega
    obtain ⟨k, hk, hk1, hk2, hk3⟩ := ndL_ok m hm0.1 (by omega)
    refine Good.alloc (us := List.replicate 24 (.int .u8 0)) (fun g => ?_)
    refine Good.on ?_
    refine Good.ifD (fun hn0 => ?_) (fun hn0 => ?_)
    rotate_left
    · omega
    refine Good.on ?_
    rw [show IntKind.u64.wrap (0 - IntKind.u64.wrap n) = (m : Int) from by simp [IntKind.wrap, IntKind.bits, IntKind.signed]; omega]
    refine Good.callK [] (numDigits_spec m (by omega)) stays_env hF ck119 ?_
    rintro r L ⟨rfl, rfl⟩
    refine Good.on ?_
    rw [hk, show IntKind.i64.wrap (1 + ((k + 1 : Nat) : Int)) = ((k + 2 : Nat) : Int) from by rw [w64 _ (by omega)]; omega]
    refine Good.val (Yv.sliceArr 1 (k + 2) rfl rfl rfl rfl rfl rfl rfl ⟨_, rfl⟩ ⟨_, rfl⟩ (by omega) (by omega)) ?_
    rw [if_neg (by omega), addr_add, show 0 + 1 * ti5.size = 1 from rfl, show k + 2 - 1 = k + 1 from by omega]
    refine Good.on ?_
    rw [repl_split (k + 1) (by omega)]
    refine Good.callP [0] (formatBase10_spec g 1 (k + 1) (24 - 1) (List.replicate (1 + (k + 1)) (.int .u8 0)) (List.replicate (23 - (k + 1)) (.int .u8 0)) m (by omega) hk1 (by omega) (by simp)) ck120 ?_
    rintro r L ⟨rfl, rfl⟩
    rw [decK_decL k m hk1 hk2]
    have hlen : (decL m).length = k + 1 := by rw [← decK_decL k m hk1 hk2, decK_len]
    have e : (List.replicate (1 + (k + 1)) (Value.int .u8 0)).take 1 = [.int .u8 0] := by
      rw [Nat.add_comm, List.replicate_succ]; rfl
    rw [e]
    refine Good.on ?_
    refine Good.ifD (fun hn0 => ?_) (fun hn0 => ?_)
    rotate_left
    · omega
    refine Good.on ?_
    refine Good.val (Yv.indexArr rfl rfl rfl rfl rfl rfl (by omega) (by omega)) ?_
    refine Good.on ?_
    refine Good.store 0 (r := .int .u8 45 :: (strCells (str (decL m)) ++ List.replicate (23 - (k + 1)) (.int .u8 0))) ?_ (hs := by cases hh : (strCells (str (decL m)) ++ List.replicate (23 - (k + 1)) (Value.int .u8 0)) <;> rfl)
    refine Good.on ?_
    rw [show IntKind.i64.wrap (1 + ((k + 1 : Nat) : Int)) = ((k + 2 : Nat) : Int) from by rw [w64 _ (by omega)]; omega]
    refine Good.val (Yv.sliceArr 0 (k + 2) rfl rfl rfl rfl rfl rfl rfl rfl ⟨_, rfl⟩ (by omega) (by omega)) ?_
    rw [if_neg (by omega), addr_add, show 0 + 0 * ti5.size = 0 from rfl]
    refine Good.on ?_
    refine Good.rowStr 0 (off := 0) (m := k + 2 - 0) (c := 24 - 0) (bs := 45 :: decL m) (fun j b hb => ?_) (by simp [hlen]) ?_
    · rw [Nat.zero_add]
      cases j with
      | zero => simp at hb; subst hb; rfl
      | succ j =>
        have := cells_at (.int .u8 45) (decL m) (List.replicate (23 - (k + 1)) (.int .u8 0)) j b (by simpa using hb)
        rw [Nat.add_comm 1 j] at this; exact this
    refine Good.on ?_
    refine Good.ret1 Tryd.results98 (Res.tmp rfl) ⟨?_, _, rfl⟩ (fun _ h => h)
    rw [itoaL, if_pos hneg, show (-n).toNat = m from by omega]
theorem iItoa_spec (n : Int) (hn : -9223372036854775808 ≤ n ∧ n ≤ 9223372036854775807) : Spec Tryd.prog 103 #[.int .i64 n] Env [] fun r L => r = .string (str (itoaL n)) ∧ ∃ L', L = L' := by
  refine Spec.go (vs := [_]) (hT := tyOk) (hm := mixed0) Tryd.func103 rfl Tryd.ntmps103 rfl ?_
  intro W p hF
  refine Good.on ?_
  refine Good.callK [] (formatInt10_spec n hn) stays_env hF ck98 ?_
  rintro r L ⟨rfl, _⟩
  refine Good.on ?_
  refine Good.ret1 Tryd.results103 (Res.tmp rfl) ⟨rfl, _, rfl⟩ (fun _ h => h)
theorem itoa_spec (n : Int) (hn : -9223372036854775808 ≤ n ∧ n ≤ 9223372036854775807) : Spec Tryd.prog 80 #[.int .i64 n] Env [] fun r L => r = .string (str (itoaL n)) ∧ L = [] := by
  refine Spec.go (vs := [_]) (hT := tyOk) (hm := mixed0) Tryd.func80 rfl Tryd.ntmps80 rfl ?_
  intro W p hF
  refine Good.on ?_
  refine Good.callK [] (iItoa_spec n hn) stays_env hF ck103 ?_
  rintro r L ⟨rfl, _⟩
  refine Good.on ?_
  refine Good.ret1 Tryd.results80 (Res.tmp rfl) ⟨rfl, rfl⟩ (fun _ h => h.clear)
end Go.Proofs.YtnfcbpgckomdfaaDoor
