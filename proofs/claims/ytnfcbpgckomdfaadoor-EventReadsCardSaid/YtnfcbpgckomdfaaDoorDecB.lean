/- strconv.formatBase10. -/
import Derived.Test.YtnfcbpgckomdfaaDoorDecF
namespace Go.Proofs.YtnfcbpgckomdfaaDoor
open Go.Lib (strCells)
theorem u32w (n : Nat) (h : n < 4294967296) : IntKind.u32.wrap (n : Int) = (n : Int) := wrapU rfl n (by simp only [IntKind.bits]; omega)
theorem tmodN (a b : Nat) : (a : Int).tmod (b : Int) = ((a % b : Nat) : Int) := rfl
theorem tdivN (a b : Nat) : (a : Int).tdiv (b : Int) = ((a / b : Nat) : Int) := rfl
theorem decK_eight (q u : Nat) : decK (q + 8) u = decK q (u / 100000000) ++ (d2 (u % 100000000 / 10000 / 100) ++ (d2 (u % 100000000 / 10000 % 100) ++ (d2 (u % 100000000 % 10000 / 100) ++ d2 (u % 100000000 % 10000 % 100)))) := by
  rw [show q + 8 = (q + 6) + 2 from rfl, decK_two, show q + 6 = (q + 4) + 2 from rfl, decK_two, show q + 4 = (q + 2) + 2 from rfl, decK_two, decK_two]
  rw [show u / 100 / 100 / 100 / 100 = u / 100000000 from by omega, show u / 100 / 100 / 100 % 100 = u % 100000000 / 10000 / 100 from by omega, show u / 100 / 100 % 100 = u % 100000000 / 10000 % 100 from by omega, show u / 100 % 100 = u % 100000000 % 10000 / 100 from by omega, show u % 100 = u % 100000000 % 10000 % 100 from by omega]
  simp only [List.append_assoc]
theorem decK_four (q u : Nat) : decK (q + 4) u = decK q (u / 10000) ++ (d2 (u % 10000 / 100) ++ d2 (u % 10000 % 100)) := by
  rw [show q + 4 = (q + 2) + 2 from rfl, decK_two, decK_two]
  rw [show u / 100 / 100 = u / 10000 from by omega, show u / 100 % 100 = u % 10000 / 100 from by omega, show u % 100 = u % 10000 % 100 from by omega]
  simp only [List.append_assoc]
set_option maxHeartbeats 3200000
set_option maxRecDepth 20000
theorem formatBase10_spec (g off k cap : Nat) (A post : List Value) (n : Nat) (hn : n < 18446744073709551616) (hk : n < 10 ^ k) (hk2 : k ≤ 20) (hA : A.length = off + k) :
    Spec Tryd.prog 120 #[.slice (some ⟨g, off, none⟩) k cap, .int .u64 (n : Int)] noFacts [HP.row g (A ++ post) 185] fun r L => r = .tuple #[] ∧ L = [HP.row g (A.take off ++ (strCells (str (decK k n)) ++ post)) 185] := by
  refine Spec.go (vs := [_, _]) (hT := tyOk) (hm := mixed0) Tryd.func120 rfl Tryd.ntmps120 rfl ?_
  intro W p _
  refine Good.on ?_
  refine Good.mem (l' := [HP.row g (digR A (off + k) [] post) 185]) (fun w h => by
    have : digR A (off + k) [] post = A ++ post := by unfold digR; rw [List.take_of_length_le (by omega)]; rfl
    rw [this]; exact h) ?_
  refine Good.loop (ι := Nat × Nat × List UInt8) (fun x => [(0, .v (.slice (some ⟨g, off, none⟩) k cap)), (1, .v (.int .u64 (x.2.1 : Int))), (4, .v (.int .i64 (x.1 : Int)))]) (fun x => [HP.row g (digR A (off + x.1) x.2.2 post) 185])
    (fun x => x.1 ≤ k ∧ x.2.1 < 10 ^ x.1 ∧ x.2.1 < 18446744073709551616 ∧ decK x.1 x.2.1 ++ x.2.2 = decK k n) (fun x => x.1) (k, n, []) ⟨Nat.le_refl _, hk, hn, by simp⟩ ⟨rfl, rfl, rfl, trivial⟩ (fun _ h => h) ?_
  rintro ⟨i, u, ys⟩ ⟨hi, hu, hu64, hd⟩
  dsimp only at hi hu hu64 hd ⊢
  refine Good.on ?_
  refine Good.ifD (fun h8 => ?_) (fun h8 => ?_) <;> refine Good.on ?_
  · obtain ⟨q, rfl⟩ : ∃ q, i = q + 8 := ⟨i - 8, by omega⟩
    rw [show IntKind.u32.wrap ((u : Int).tmod 100000000) = ((u % 100000000 : Nat) : Int) from u32w (u % 100000000) (by omega), show IntKind.u64.wrap ((u : Int).tdiv 100000000) = ((u / 100000000 : Nat) : Int) from u64w (u / 100000000) (by omega)]
    rw [show IntKind.u32.wrap (((u % 100000000 : Nat) : Int).tdiv 10000) = ((u % 100000000 / 10000 : Nat) : Int) from u32w (u % 100000000 / 10000) (by omega), show ((u % 100000000 : Nat) : Int).tmod 10000 = ((u % 100000000 % 10000 : Nat) : Int) from rfl]
    rw [show IntKind.u32.wrap (IntKind.u32.wrap (((u % 100000000 % 10000 : Nat) : Int).tdiv 100) * 2) = ((2 * (u % 100000000 % 10000 / 100) : Nat) : Int) from by rw [show ((u % 100000000 % 10000 : Nat) : Int).tdiv 100 = ((u % 100000000 % 10000 / 100 : Nat) : Int) from rfl, u32w _ (by omega)]; have := u32w (2 * (u % 100000000 % 10000 / 100)) (by omega); simpa [Int.mul_comm, Nat.mul_comm] using this]
    rw [show IntKind.u32.wrap ((((u % 100000000 % 10000 : Nat) : Int).tmod 100) * 2) = ((2 * (u % 100000000 % 10000 % 100) : Nat) : Int) from by rw [show ((u % 100000000 % 10000 : Nat) : Int).tmod 100 = ((u % 100000000 % 10000 % 100 : Nat) : Int) from rfl]; have := u32w (2 * (u % 100000000 % 10000 % 100)) (by omega); simpa [Int.mul_comm, Nat.mul_comm] using this]
    rw [show IntKind.u32.wrap (IntKind.u32.wrap (((u % 100000000 / 10000 : Nat) : Int).tdiv 100) * 2) = ((2 * (u % 100000000 / 10000 / 100) : Nat) : Int) from by rw [show ((u % 100000000 / 10000 : Nat) : Int).tdiv 100 = ((u % 100000000 / 10000 / 100 : Nat) : Int) from rfl, u32w _ (by omega)]; have := u32w (2 * (u % 100000000 / 10000 / 100)) (by omega); simpa [Int.mul_comm, Nat.mul_comm] using this]
    rw [show IntKind.u32.wrap ((((u % 100000000 / 10000 : Nat) : Int).tmod 100) * 2) = ((2 * (u % 100000000 / 10000 % 100) : Nat) : Int) from by rw [show ((u % 100000000 / 10000 : Nat) : Int).tmod 100 = ((u % 100000000 / 10000 % 100 : Nat) : Int) from rfl]; have := u32w (2 * (u % 100000000 / 10000 % 100)) (by omega); simpa [Int.mul_comm, Nat.mul_comm] using this]
    refine Good.drawn ?_
    rw [show IntKind.i64.wrap (((q + 8 : Nat) : Int) - 1) = ((q + 7 : Nat) : Int) from by rw [w64 _ (by omega)]; omega, show IntKind.i64.wrap (((q + 8 : Nat) : Int) - 2) = ((q + 6 : Nat) : Int) from by rw [w64 _ (by omega)]; omega, show IntKind.u32.wrap (((2 * (u % 100000000 % 10000 % 100) : Nat) : Int) + 1) = ((2 * (u % 100000000 % 10000 % 100) + 1 : Nat) : Int) from by have := u32w (2 * (u % 100000000 % 10000 % 100) + 1) (by omega); simpa using this]
    refine Good.dval 8 rfl (Yv.index (bs := smallL) rfl rfl rfl (by kernel_rfl) rfl (by omega) (by rw [Int.toNat_natCast]; exact (small_get (u % 100000000 % 10000 % 100) (by omega)).2)) ?_
    refine Good.dval 10 rfl (Yv.index (bs := smallL) rfl rfl rfl (by kernel_rfl) rfl (by omega) (by rw [Int.toNat_natCast]; exact (small_get (u % 100000000 % 10000 % 100) (by omega)).1)) ?_
    refine Good.dval 11 rfl (Yv.indexAddr rfl rfl rfl rfl rfl rfl (by omega) (by omega)) ?_
    rw [show off + ((q + 7 : Nat) : Int).toNat * ti5.size = off + (q + 7) from by rw [Int.toNat_natCast]; simp [ti5]]
    refine Good.done 12 rfl (OpW.storeAt 0 (r := digR A (off + (q + 7)) (dig (u % 100000000 % 10000 % 100) :: ys) post) rfl rfl rfl rfl rfl rfl rfl rfl rfl (digR_set (m := off + (q + 7)) (dig (u % 100000000 % 10000 % 100)) (by omega)) ?_)
    refine Good.dval 13 rfl (Yv.indexAddr rfl rfl rfl rfl rfl rfl (by omega) (by omega)) ?_
    rw [show off + ((q + 6 : Nat) : Int).toNat * ti5.size = off + (q + 6) from by rw [Int.toNat_natCast]; simp [ti5]]
    refine Good.done 14 rfl (OpW.storeAt 0 (r := digR A (off + (q + 6)) (dig ((u % 100000000 % 10000 % 100) / 10) :: dig (u % 100000000 % 10000 % 100) :: ys) post) rfl rfl rfl rfl rfl rfl rfl rfl rfl (digR_set (m := off + (q + 6)) (dig ((u % 100000000 % 10000 % 100) / 10)) (by omega)) ?_)
    refine Good.drawn ?_
    refine Good.dend ?_
    refine Good.on ?_
    refine Good.drawn ?_
    rw [show IntKind.i64.wrap (((q + 8 : Nat) : Int) - 3) = ((q + 5 : Nat) : Int) from by rw [w64 _ (by omega)]; omega, show IntKind.i64.wrap (((q + 8 : Nat) : Int) - 4) = ((q + 4 : Nat) : Int) from by rw [w64 _ (by omega)]; omega, show IntKind.u32.wrap (((2 * (u % 100000000 % 10000 / 100) : Nat) : Int) + 1) = ((2 * (u % 100000000 % 10000 / 100) + 1 : Nat) : Int) from by have := u32w (2 * (u % 100000000 % 10000 / 100) + 1) (by omega); simpa using this]
    refine Good.dval 8 rfl (Yv.index (bs := smallL) rfl rfl rfl (by kernel_rfl) rfl (by omega) (by rw [Int.toNat_natCast]; exact (small_get (u % 100000000 % 10000 / 100) (by omega)).2)) ?_
    refine Good.dval 10 rfl (Yv.index (bs := smallL) rfl rfl rfl (by kernel_rfl) rfl (by omega) (by rw [Int.toNat_natCast]; exact (small_get (u % 100000000 % 10000 / 100) (by omega)).1)) ?_
    refine Good.dval 11 rfl (Yv.indexAddr rfl rfl rfl rfl rfl rfl (by omega) (by omega)) ?_
    rw [show off + ((q + 5 : Nat) : Int).toNat * ti5.size = off + (q + 5) from by rw [Int.toNat_natCast]; simp [ti5]]
    refine Good.done 12 rfl (OpW.storeAt 0 (r := digR A (off + (q + 5)) (dig (u % 100000000 % 10000 / 100) :: (dig ((u % 100000000 % 10000 % 100) / 10) :: dig (u % 100000000 % 10000 % 100) :: ys)) post) rfl rfl rfl rfl rfl rfl rfl rfl rfl (digR_set (m := off + (q + 5)) (dig (u % 100000000 % 10000 / 100)) (by omega)) ?_)
    refine Good.dval 13 rfl (Yv.indexAddr rfl rfl rfl rfl rfl rfl (by omega) (by omega)) ?_
    rw [show off + ((q + 4 : Nat) : Int).toNat * ti5.size = off + (q + 4) from by rw [Int.toNat_natCast]; simp [ti5]]
    refine Good.done 14 rfl (OpW.storeAt 0 (r := digR A (off + (q + 4)) (dig ((u % 100000000 % 10000 / 100) / 10) :: dig (u % 100000000 % 10000 / 100) :: (dig ((u % 100000000 % 10000 % 100) / 10) :: dig (u % 100000000 % 10000 % 100) :: ys)) post) rfl rfl rfl rfl rfl rfl rfl rfl rfl (digR_set (m := off + (q + 4)) (dig ((u % 100000000 % 10000 / 100) / 10)) (by omega)) ?_)
    refine Good.drawn ?_
    refine Good.dend ?_
    refine Good.on ?_
    refine Good.drawn ?_
    rw [show IntKind.i64.wrap (((q + 8 : Nat) : Int) - 5) = ((q + 3 : Nat) : Int) from by rw [w64 _ (by omega)]; omega, show IntKind.i64.wrap (((q + 8 : Nat) : Int) - 6) = ((q + 2 : Nat) : Int) from by rw [w64 _ (by omega)]; omega, show IntKind.u32.wrap (((2 * (u % 100000000 / 10000 % 100) : Nat) : Int) + 1) = ((2 * (u % 100000000 / 10000 % 100) + 1 : Nat) : Int) from by have := u32w (2 * (u % 100000000 / 10000 % 100) + 1) (by omega); simpa using this]
    refine Good.dval 8 rfl (Yv.index (bs := smallL) rfl rfl rfl (by kernel_rfl) rfl (by omega) (by rw [Int.toNat_natCast]; exact (small_get (u % 100000000 / 10000 % 100) (by omega)).2)) ?_
    refine Good.dval 10 rfl (Yv.index (bs := smallL) rfl rfl rfl (by kernel_rfl) rfl (by omega) (by rw [Int.toNat_natCast]; exact (small_get (u % 100000000 / 10000 % 100) (by omega)).1)) ?_
    refine Good.dval 11 rfl (Yv.indexAddr rfl rfl rfl rfl rfl rfl (by omega) (by omega)) ?_
    rw [show off + ((q + 3 : Nat) : Int).toNat * ti5.size = off + (q + 3) from by rw [Int.toNat_natCast]; simp [ti5]]
    refine Good.done 12 rfl (OpW.storeAt 0 (r := digR A (off + (q + 3)) (dig (u % 100000000 / 10000 % 100) :: (dig ((u % 100000000 % 10000 / 100) / 10) :: dig (u % 100000000 % 10000 / 100) :: (dig ((u % 100000000 % 10000 % 100) / 10) :: dig (u % 100000000 % 10000 % 100) :: ys))) post) rfl rfl rfl rfl rfl rfl rfl rfl rfl (digR_set (m := off + (q + 3)) (dig (u % 100000000 / 10000 % 100)) (by omega)) ?_)
    refine Good.dval 13 rfl (Yv.indexAddr rfl rfl rfl rfl rfl rfl (by omega) (by omega)) ?_
    rw [show off + ((q + 2 : Nat) : Int).toNat * ti5.size = off + (q + 2) from by rw [Int.toNat_natCast]; simp [ti5]]
    refine Good.done 14 rfl (OpW.storeAt 0 (r := digR A (off + (q + 2)) (dig ((u % 100000000 / 10000 % 100) / 10) :: dig (u % 100000000 / 10000 % 100) :: (dig ((u % 100000000 % 10000 / 100) / 10) :: dig (u % 100000000 % 10000 / 100) :: (dig ((u % 100000000 % 10000 % 100) / 10) :: dig (u % 100000000 % 10000 % 100) :: ys))) post) rfl rfl rfl rfl rfl rfl rfl rfl rfl (digR_set (m := off + (q + 2)) (dig ((u % 100000000 / 10000 % 100) / 10)) (by omega)) ?_)
    refine Good.drawn ?_
    refine Good.dend ?_
    refine Good.on ?_
    refine Good.drawn ?_
    rw [show IntKind.i64.wrap (((q + 8 : Nat) : Int) - 7) = ((q + 1 : Nat) : Int) from by rw [w64 _ (by omega)]; omega, show IntKind.i64.wrap (((q + 8 : Nat) : Int) - 8) = ((q + 0 : Nat) : Int) from by rw [w64 _ (by omega)]; omega, show IntKind.u32.wrap (((2 * (u % 100000000 / 10000 / 100) : Nat) : Int) + 1) = ((2 * (u % 100000000 / 10000 / 100) + 1 : Nat) : Int) from by have := u32w (2 * (u % 100000000 / 10000 / 100) + 1) (by omega); simpa using this]
    refine Good.dval 8 rfl (Yv.index (bs := smallL) rfl rfl rfl (by kernel_rfl) rfl (by omega) (by rw [Int.toNat_natCast]; exact (small_get (u % 100000000 / 10000 / 100) (by omega)).2)) ?_
    refine Good.dval 10 rfl (Yv.index (bs := smallL) rfl rfl rfl (by kernel_rfl) rfl (by omega) (by rw [Int.toNat_natCast]; exact (small_get (u % 100000000 / 10000 / 100) (by omega)).1)) ?_
    refine Good.dval 11 rfl (Yv.indexAddr rfl rfl rfl rfl rfl rfl (by omega) (by omega)) ?_
    rw [show off + ((q + 1 : Nat) : Int).toNat * ti5.size = off + (q + 1) from by rw [Int.toNat_natCast]; simp [ti5]]
    refine Good.done 12 rfl (OpW.storeAt 0 (r := digR A (off + (q + 1)) (dig (u % 100000000 / 10000 / 100) :: (dig ((u % 100000000 / 10000 % 100) / 10) :: dig (u % 100000000 / 10000 % 100) :: (dig ((u % 100000000 % 10000 / 100) / 10) :: dig (u % 100000000 % 10000 / 100) :: (dig ((u % 100000000 % 10000 % 100) / 10) :: dig (u % 100000000 % 10000 % 100) :: ys)))) post) rfl rfl rfl rfl rfl rfl rfl rfl rfl (digR_set (m := off + (q + 1)) (dig (u % 100000000 / 10000 / 100)) (by omega)) ?_)
    refine Good.dval 13 rfl (Yv.indexAddr rfl rfl rfl rfl rfl rfl (by omega) (by omega)) ?_
    rw [show off + ((q + 0 : Nat) : Int).toNat * ti5.size = off + (q + 0) from by rw [Int.toNat_natCast]; simp [ti5]]
    refine Good.done 14 rfl (OpW.storeAt 0 (r := digR A (off + (q + 0)) (dig ((u % 100000000 / 10000 / 100) / 10) :: dig (u % 100000000 / 10000 / 100) :: (dig ((u % 100000000 / 10000 % 100) / 10) :: dig (u % 100000000 / 10000 % 100) :: (dig ((u % 100000000 % 10000 / 100) / 10) :: dig (u % 100000000 % 10000 / 100) :: (dig ((u % 100000000 % 10000 % 100) / 10) :: dig (u % 100000000 % 10000 % 100) :: ys)))) post) rfl rfl rfl rfl rfl rfl rfl rfl rfl (digR_set (m := off + (q + 0)) (dig ((u % 100000000 / 10000 / 100) / 10)) (by omega)) ?_)
    refine Good.drawn ?_
    refine Good.dend ?_
    refine Good.on ?_
    rw [show IntKind.i64.wrap (((q + 8 : Nat) : Int) - 8) = ((q : Nat) : Int) from by rw [w64 _ (by omega)]; omega]
    refine Good.again (q, u / 100000000, d2 (u % 100000000 / 10000 / 100) ++ (d2 (u % 100000000 / 10000 % 100) ++ (d2 (u % 100000000 % 10000 / 100) ++ (d2 (u % 100000000 % 10000 % 100) ++ ys)))) ⟨⟨by dsimp only; omega, ?_, by dsimp only; omega, ?_⟩, by dsimp only; omega⟩ ⟨rfl, rfl, rfl, trivial⟩ (fun _ h => h)
    · dsimp only
      rw [Nat.div_lt_iff_lt_mul (by omega), show (100000000 : Nat) = 10 ^ 8 from by decide, ← Nat.pow_add]; exact hu
    · dsimp only
      rw [← hd, decK_eight]; simp only [List.append_assoc]
  have hu8 : u < 100000000 := by
    have : (10 : Nat) ^ i ≤ 10 ^ 8 := Nat.pow_le_pow_right (by omega) (by omega)
    have e : (10 : Nat) ^ 8 = 100000000 := by decide
    omega
  rw [u32w u (by omega)]
  refine Good.ifD (fun h4 => ?_) (fun h4 => ?_) <;> refine Good.on ?_
  · obtain ⟨q, rfl⟩ : ∃ q, i = q + 4 := ⟨i - 4, by omega⟩
    rw [show ((u : Nat) : Int).tmod 10000 = ((u % 10000 : Nat) : Int) from rfl, show IntKind.u32.wrap ((u : Int).tdiv 10000) = ((u / 10000 : Nat) : Int) from u32w (u / 10000) (by omega)]
    rw [show IntKind.u32.wrap (IntKind.u32.wrap (((u % 10000 : Nat) : Int).tdiv 100) * 2) = ((2 * (u % 10000 / 100) : Nat) : Int) from by rw [show ((u % 10000 : Nat) : Int).tdiv 100 = ((u % 10000 / 100 : Nat) : Int) from rfl, u32w _ (by omega)]; have := u32w (2 * (u % 10000 / 100)) (by omega); simpa [Int.mul_comm, Nat.mul_comm] using this]
    rw [show IntKind.u32.wrap ((((u % 10000 : Nat) : Int).tmod 100) * 2) = ((2 * (u % 10000 % 100) : Nat) : Int) from by rw [show ((u % 10000 : Nat) : Int).tmod 100 = ((u % 10000 % 100 : Nat) : Int) from rfl]; have := u32w (2 * (u % 10000 % 100)) (by omega); simpa [Int.mul_comm, Nat.mul_comm] using this]
    refine Good.drawn ?_
    rw [show IntKind.i64.wrap (((q + 4 : Nat) : Int) - 1) = ((q + 3 : Nat) : Int) from by rw [w64 _ (by omega)]; omega, show IntKind.i64.wrap (((q + 4 : Nat) : Int) - 2) = ((q + 2 : Nat) : Int) from by rw [w64 _ (by omega)]; omega, show IntKind.u32.wrap (((2 * (u % 10000 % 100) : Nat) : Int) + 1) = ((2 * (u % 10000 % 100) + 1 : Nat) : Int) from by have := u32w (2 * (u % 10000 % 100) + 1) (by omega); simpa using this]
    refine Good.dval 8 rfl (Yv.index (bs := smallL) rfl rfl rfl (by kernel_rfl) rfl (by omega) (by rw [Int.toNat_natCast]; exact (small_get (u % 10000 % 100) (by omega)).2)) ?_
    refine Good.dval 10 rfl (Yv.index (bs := smallL) rfl rfl rfl (by kernel_rfl) rfl (by omega) (by rw [Int.toNat_natCast]; exact (small_get (u % 10000 % 100) (by omega)).1)) ?_
    refine Good.dval 11 rfl (Yv.indexAddr rfl rfl rfl rfl rfl rfl (by omega) (by omega)) ?_
    rw [show off + ((q + 3 : Nat) : Int).toNat * ti5.size = off + (q + 3) from by rw [Int.toNat_natCast]; simp [ti5]]
    refine Good.done 12 rfl (OpW.storeAt 0 (r := digR A (off + (q + 3)) (dig (u % 10000 % 100) :: ys) post) rfl rfl rfl rfl rfl rfl rfl rfl rfl (digR_set (m := off + (q + 3)) (dig (u % 10000 % 100)) (by omega)) ?_)
    refine Good.dval 13 rfl (Yv.indexAddr rfl rfl rfl rfl rfl rfl (by omega) (by omega)) ?_
    rw [show off + ((q + 2 : Nat) : Int).toNat * ti5.size = off + (q + 2) from by rw [Int.toNat_natCast]; simp [ti5]]
    refine Good.done 14 rfl (OpW.storeAt 0 (r := digR A (off + (q + 2)) (dig ((u % 10000 % 100) / 10) :: dig (u % 10000 % 100) :: ys) post) rfl rfl rfl rfl rfl rfl rfl rfl rfl (digR_set (m := off + (q + 2)) (dig ((u % 10000 % 100) / 10)) (by omega)) ?_)
    refine Good.drawn ?_
    refine Good.dend ?_
    refine Good.on ?_
    refine Good.drawn ?_
    rw [show IntKind.i64.wrap (((q + 4 : Nat) : Int) - 3) = ((q + 1 : Nat) : Int) from by rw [w64 _ (by omega)]; omega, show IntKind.i64.wrap (((q + 4 : Nat) : Int) - 4) = ((q + 0 : Nat) : Int) from by rw [w64 _ (by omega)]; omega, show IntKind.u32.wrap (((2 * (u % 10000 / 100) : Nat) : Int) + 1) = ((2 * (u % 10000 / 100) + 1 : Nat) : Int) from by have := u32w (2 * (u % 10000 / 100) + 1) (by omega); simpa using this]
    refine Good.dval 8 rfl (Yv.index (bs := smallL) rfl rfl rfl (by kernel_rfl) rfl (by omega) (by rw [Int.toNat_natCast]; exact (small_get (u % 10000 / 100) (by omega)).2)) ?_
    refine Good.dval 10 rfl (Yv.index (bs := smallL) rfl rfl rfl (by kernel_rfl) rfl (by omega) (by rw [Int.toNat_natCast]; exact (small_get (u % 10000 / 100) (by omega)).1)) ?_
    refine Good.dval 11 rfl (Yv.indexAddr rfl rfl rfl rfl rfl rfl (by omega) (by omega)) ?_
    rw [show off + ((q + 1 : Nat) : Int).toNat * ti5.size = off + (q + 1) from by rw [Int.toNat_natCast]; simp [ti5]]
    refine Good.done 12 rfl (OpW.storeAt 0 (r := digR A (off + (q + 1)) (dig (u % 10000 / 100) :: (dig ((u % 10000 % 100) / 10) :: dig (u % 10000 % 100) :: ys)) post) rfl rfl rfl rfl rfl rfl rfl rfl rfl (digR_set (m := off + (q + 1)) (dig (u % 10000 / 100)) (by omega)) ?_)
    refine Good.dval 13 rfl (Yv.indexAddr rfl rfl rfl rfl rfl rfl (by omega) (by omega)) ?_
    rw [show off + ((q + 0 : Nat) : Int).toNat * ti5.size = off + (q + 0) from by rw [Int.toNat_natCast]; simp [ti5]]
    refine Good.done 14 rfl (OpW.storeAt 0 (r := digR A (off + (q + 0)) (dig ((u % 10000 / 100) / 10) :: dig (u % 10000 / 100) :: (dig ((u % 10000 % 100) / 10) :: dig (u % 10000 % 100) :: ys)) post) rfl rfl rfl rfl rfl rfl rfl rfl rfl (digR_set (m := off + (q + 0)) (dig ((u % 10000 / 100) / 10)) (by omega)) ?_)
    refine Good.drawn ?_
    refine Good.dend ?_
    refine Good.on ?_
    rw [show IntKind.i64.wrap (((q + 4 : Nat) : Int) - 4) = ((q : Nat) : Int) from by rw [w64 _ (by omega)]; omega]
    have hd' : decK q (u / 10000) ++ (d2 (u % 10000 / 100) ++ (d2 (u % 10000 % 100) ++ ys)) = decK k n := by rw [← hd, decK_four]; simp only [List.append_assoc]
    have hu' : u / 10000 < 10 ^ q := by rw [Nat.div_lt_iff_lt_mul (by omega), show (10000 : Nat) = 10 ^ 4 from by decide, ← Nat.pow_add]; exact hu
    refine Good.mem (l' := [HP.row g (digR A (off + q) (d2 (u % 10000 / 100) ++ (d2 (u % 10000 % 100) ++ ys)) post) 185]) (fun _ h => h) ?_
    have hqk : q ≤ k := by omega
    have hq4 : q < 4 := by omega
    have hu10 : u / 10000 < 10000 := by omega
    generalize u / 10000 = u2 at hd' hu' hu10 ⊢
    generalize d2 (u % 10000 / 100) ++ (d2 (u % 10000 % 100) ++ ys) = ys2 at hd' ⊢
    clear hd
    refine Good.ifD (fun h2 => ?_) (fun h2 => ?_) <;> refine Good.on ?_
    · obtain ⟨q, rfl⟩ : ∃ r, q = r + 2 := ⟨q - 2, by omega⟩
      rw [show IntKind.u32.wrap (((u2 : Nat) : Int).tmod 100 * 2) = ((2 * (u2 % 100) : Nat) : Int) from by rw [show ((u2 : Nat) : Int).tmod 100 = ((u2 % 100 : Nat) : Int) from rfl]; have := u32w (2 * (u2 % 100)) (by omega); simpa [Int.mul_comm, Nat.mul_comm] using this, show IntKind.u32.wrap (((u2 : Nat) : Int).tdiv 100) = ((u2 / 100 : Nat) : Int) from u32w (u2 / 100) (by omega)]
      refine Good.drawn ?_
      rw [show IntKind.i64.wrap (((q + 2 : Nat) : Int) - 1) = ((q + 1 : Nat) : Int) from by rw [w64 _ (by omega)]; omega, show IntKind.i64.wrap (((q + 2 : Nat) : Int) - 2) = ((q + 0 : Nat) : Int) from by rw [w64 _ (by omega)]; omega, show IntKind.u32.wrap (((2 * (u2 % 100) : Nat) : Int) + 1) = ((2 * (u2 % 100) + 1 : Nat) : Int) from by have := u32w (2 * (u2 % 100) + 1) (by omega); simpa using this]
      refine Good.dval 8 rfl (Yv.index (bs := smallL) rfl rfl rfl (by kernel_rfl) rfl (by omega) (by rw [Int.toNat_natCast]; exact (small_get (u2 % 100) (by omega)).2)) ?_
      refine Good.dval 10 rfl (Yv.index (bs := smallL) rfl rfl rfl (by kernel_rfl) rfl (by omega) (by rw [Int.toNat_natCast]; exact (small_get (u2 % 100) (by omega)).1)) ?_
      refine Good.dval 11 rfl (Yv.indexAddr rfl rfl rfl rfl rfl rfl (by omega) (by omega)) ?_
      rw [show off + ((q + 1 : Nat) : Int).toNat * ti5.size = off + (q + 1) from by rw [Int.toNat_natCast]; simp [ti5]]
      refine Good.done 12 rfl (OpW.storeAt 0 (r := digR A (off + (q + 1)) (dig (u2 % 100) :: ys2) post) rfl rfl rfl rfl rfl rfl rfl rfl rfl (digR_set (m := off + (q + 1)) (dig (u2 % 100)) (by omega)) ?_)
      refine Good.dval 13 rfl (Yv.indexAddr rfl rfl rfl rfl rfl rfl (by omega) (by omega)) ?_
      rw [show off + ((q + 0 : Nat) : Int).toNat * ti5.size = off + (q + 0) from by rw [Int.toNat_natCast]; simp [ti5]]
      refine Good.done 14 rfl (OpW.storeAt 0 (r := digR A (off + (q + 0)) (dig ((u2 % 100) / 10) :: dig (u2 % 100) :: ys2) post) rfl rfl rfl rfl rfl rfl rfl rfl rfl (digR_set (m := off + (q + 0)) (dig ((u2 % 100) / 10)) (by omega)) ?_)
      refine Good.drawn ?_
      refine Good.dend ?_
      refine Good.on ?_
      rw [show IntKind.i64.wrap (((q + 2 : Nat) : Int) - 2) = ((q : Nat) : Int) from by rw [w64 _ (by omega)]; omega]
      have hd2 : decK q (u2 / 100) ++ (d2 (u2 % 100) ++ ys2) = decK k n := by rw [← hd', decK_two]; simp only [List.append_assoc]
      have hu2 : u2 / 100 < 10 ^ q := by rw [Nat.div_lt_iff_lt_mul (by omega), show (100 : Nat) = 10 ^ 2 from by decide, ← Nat.pow_add]; exact hu'
      refine Good.mem (l' := [HP.row g (digR A (off + q) (d2 (u2 % 100) ++ ys2) post) 185]) (fun _ h => h) ?_
      refine Good.ifD (fun h0 => ?_) (fun h0 => ?_) <;> refine Good.on ?_
      · have hz : q = 1 := by omega
        subst hz
        have hu9 : u2 / 100 < 10 := by simpa using hu2
        rw [show IntKind.u8.wrap (IntKind.u32.wrap (48 + ((u2 / 100 : Nat) : Int))) = ((dig (u2 / 100)).toNat : Int) from by
          rw [show (48 : Int) + ((u2 / 100 : Nat) : Int) = ((48 + u2 / 100 : Nat) : Int) from by omega, u32w _ (by omega), u8w _ (by omega)]
          unfold dig; rw [UInt8.toNat_ofNat']; congr 1; omega]
        refine Good.val (Yv.indexAddr rfl rfl rfl rfl rfl rfl (by omega) (by omega)) ?_
        refine Good.on ?_
        refine Good.store 0 (r := digR A off (dig (u2 / 100) :: (d2 (u2 % 100) ++ ys2)) post) ?_ (hs := ?_)
        rotate_left
        · rw [show off + (0 : Int).toNat * ti5.size = off from by simp]; exact digR_set (m := off) (dig (u2 / 100)) (by omega)
        refine Good.on ?_
        refine Good.end0 Tryd.results120 ⟨rfl, rfl⟩ (fun w h => ?_)
        have e : decK 1 (u2 / 100) ++ (d2 (u2 % 100) ++ ys2) = dig (u2 / 100) :: (d2 (u2 % 100) ++ ys2) := rfl
        rw [e] at hd2
        rw [← hd2]; exact h
      · have hz : q = 0 := by omega
        subst hz
        refine Good.end0 Tryd.results120 ⟨rfl, rfl⟩ (fun w h => ?_)
        have e : decK 0 (u2 / 100) ++ (d2 (u2 % 100) ++ ys2) = (d2 (u2 % 100) ++ ys2) := rfl
        rw [e] at hd2
        rw [← hd2]; exact h
    · refine Good.ifD (fun h0 => ?_) (fun h0 => ?_) <;> refine Good.on ?_
      · have hz : q = 1 := by omega
        subst hz
        have hu9 : u2 < 10 := by simpa using hu'
        rw [show IntKind.u8.wrap (IntKind.u32.wrap (48 + (u2 : Int))) = ((dig (u2)).toNat : Int) from by
          rw [show (48 : Int) + (u2 : Int) = ((48 + u2 : Nat) : Int) from by omega, u32w _ (by omega), u8w _ (by omega)]
          unfold dig; rw [UInt8.toNat_ofNat']; congr 1; omega]
        refine Good.val (Yv.indexAddr rfl rfl rfl rfl rfl rfl (by omega) (by omega)) ?_
        refine Good.on ?_
        refine Good.store 0 (r := digR A off (dig (u2) :: ys2) post) ?_ (hs := ?_)
        rotate_left
        · rw [show off + (0 : Int).toNat * ti5.size = off from by simp]; exact digR_set (m := off) (dig (u2)) (by omega)
        refine Good.on ?_
        refine Good.end0 Tryd.results120 ⟨rfl, rfl⟩ (fun w h => ?_)
        have e : decK 1 (u2) ++ ys2 = dig (u2) :: ys2 := rfl
        rw [e] at hd'
        rw [← hd']; exact h
      · have hz : q = 0 := by omega
        subst hz
        refine Good.end0 Tryd.results120 ⟨rfl, rfl⟩ (fun w h => ?_)
        have e : decK 0 (u2) ++ ys2 = ys2 := rfl
        rw [e] at hd'
        rw [← hd']; exact h
  · have hd' : decK i u ++ ys = decK k n := hd
    have hu' : u < 10 ^ i := hu
    have hqk : i ≤ k := hi
    have hq4 : i < 4 := by omega
    have hu10 : u < 10000 := by
      have : (10 : Nat) ^ i ≤ 10 ^ 4 := Nat.pow_le_pow_right (by omega) (by omega)
      have e : (10 : Nat) ^ 4 = 10000 := by decide
      omega
    clear hd hu
    refine Good.ifD (fun h2 => ?_) (fun h2 => ?_) <;> refine Good.on ?_
    · obtain ⟨q, rfl⟩ : ∃ r, i = r + 2 := ⟨i - 2, by omega⟩
      rw [show IntKind.u32.wrap (((u : Nat) : Int).tmod 100 * 2) = ((2 * (u % 100) : Nat) : Int) from by rw [show ((u : Nat) : Int).tmod 100 = ((u % 100 : Nat) : Int) from rfl]; have := u32w (2 * (u % 100)) (by omega); simpa [Int.mul_comm, Nat.mul_comm] using this, show IntKind.u32.wrap (((u : Nat) : Int).tdiv 100) = ((u / 100 : Nat) : Int) from u32w (u / 100) (by omega)]
      refine Good.drawn ?_
      rw [show IntKind.i64.wrap (((q + 2 : Nat) : Int) - 1) = ((q + 1 : Nat) : Int) from by rw [w64 _ (by omega)]; omega, show IntKind.i64.wrap (((q + 2 : Nat) : Int) - 2) = ((q + 0 : Nat) : Int) from by rw [w64 _ (by omega)]; omega, show IntKind.u32.wrap (((2 * (u % 100) : Nat) : Int) + 1) = ((2 * (u % 100) + 1 : Nat) : Int) from by have := u32w (2 * (u % 100) + 1) (by omega); simpa using this]
      refine Good.dval 8 rfl (Yv.index (bs := smallL) rfl rfl rfl (by kernel_rfl) rfl (by omega) (by rw [Int.toNat_natCast]; exact (small_get (u % 100) (by omega)).2)) ?_
      refine Good.dval 10 rfl (Yv.index (bs := smallL) rfl rfl rfl (by kernel_rfl) rfl (by omega) (by rw [Int.toNat_natCast]; exact (small_get (u % 100) (by omega)).1)) ?_
      refine Good.dval 11 rfl (Yv.indexAddr rfl rfl rfl rfl rfl rfl (by omega) (by omega)) ?_
      rw [show off + ((q + 1 : Nat) : Int).toNat * ti5.size = off + (q + 1) from by rw [Int.toNat_natCast]; simp [ti5]]
      refine Good.done 12 rfl (OpW.storeAt 0 (r := digR A (off + (q + 1)) (dig (u % 100) :: ys) post) rfl rfl rfl rfl rfl rfl rfl rfl rfl (digR_set (m := off + (q + 1)) (dig (u % 100)) (by omega)) ?_)
      refine Good.dval 13 rfl (Yv.indexAddr rfl rfl rfl rfl rfl rfl (by omega) (by omega)) ?_
      rw [show off + ((q + 0 : Nat) : Int).toNat * ti5.size = off + (q + 0) from by rw [Int.toNat_natCast]; simp [ti5]]
      refine Good.done 14 rfl (OpW.storeAt 0 (r := digR A (off + (q + 0)) (dig ((u % 100) / 10) :: dig (u % 100) :: ys) post) rfl rfl rfl rfl rfl rfl rfl rfl rfl (digR_set (m := off + (q + 0)) (dig ((u % 100) / 10)) (by omega)) ?_)
      refine Good.drawn ?_
      refine Good.dend ?_
      refine Good.on ?_
      rw [show IntKind.i64.wrap (((q + 2 : Nat) : Int) - 2) = ((q : Nat) : Int) from by rw [w64 _ (by omega)]; omega]
      have hd2 : decK q (u / 100) ++ (d2 (u % 100) ++ ys) = decK k n := by rw [← hd', decK_two]; simp only [List.append_assoc]
      have hu2 : u / 100 < 10 ^ q := by rw [Nat.div_lt_iff_lt_mul (by omega), show (100 : Nat) = 10 ^ 2 from by decide, ← Nat.pow_add]; exact hu'
      refine Good.mem (l' := [HP.row g (digR A (off + q) (d2 (u % 100) ++ ys) post) 185]) (fun _ h => h) ?_
      refine Good.ifD (fun h0 => ?_) (fun h0 => ?_) <;> refine Good.on ?_
      · have hz : q = 1 := by omega
        subst hz
        have hu9 : u / 100 < 10 := by simpa using hu2
        rw [show IntKind.u8.wrap (IntKind.u32.wrap (48 + ((u / 100 : Nat) : Int))) = ((dig (u / 100)).toNat : Int) from by
          rw [show (48 : Int) + ((u / 100 : Nat) : Int) = ((48 + u / 100 : Nat) : Int) from by omega, u32w _ (by omega), u8w _ (by omega)]
          unfold dig; rw [UInt8.toNat_ofNat']; congr 1; omega]
        refine Good.val (Yv.indexAddr rfl rfl rfl rfl rfl rfl (by omega) (by omega)) ?_
        refine Good.on ?_
        refine Good.store 0 (r := digR A off (dig (u / 100) :: (d2 (u % 100) ++ ys)) post) ?_ (hs := ?_)
        rotate_left
        · rw [show off + (0 : Int).toNat * ti5.size = off from by simp]; exact digR_set (m := off) (dig (u / 100)) (by omega)
        refine Good.on ?_
        refine Good.end0 Tryd.results120 ⟨rfl, rfl⟩ (fun w h => ?_)
        have e : decK 1 (u / 100) ++ (d2 (u % 100) ++ ys) = dig (u / 100) :: (d2 (u % 100) ++ ys) := rfl
        rw [e] at hd2
        rw [← hd2]; exact h
      · have hz : q = 0 := by omega
        subst hz
        refine Good.end0 Tryd.results120 ⟨rfl, rfl⟩ (fun w h => ?_)
        have e : decK 0 (u / 100) ++ (d2 (u % 100) ++ ys) = (d2 (u % 100) ++ ys) := rfl
        rw [e] at hd2
        rw [← hd2]; exact h
    · refine Good.ifD (fun h0 => ?_) (fun h0 => ?_) <;> refine Good.on ?_
      · have hz : i = 1 := by omega
        subst hz
        have hu9 : u < 10 := by simpa using hu'
        rw [show IntKind.u8.wrap (IntKind.u32.wrap (48 + (u : Int))) = ((dig (u)).toNat : Int) from by
          rw [show (48 : Int) + (u : Int) = ((48 + u : Nat) : Int) from by omega, u32w _ (by omega), u8w _ (by omega)]
          unfold dig; rw [UInt8.toNat_ofNat']; congr 1; omega]
        refine Good.val (Yv.indexAddr rfl rfl rfl rfl rfl rfl (by omega) (by omega)) ?_
        refine Good.on ?_
        refine Good.store 0 (r := digR A off (dig (u) :: ys) post) ?_ (hs := ?_)
        rotate_left
        · rw [show off + (0 : Int).toNat * ti5.size = off from by simp]; exact digR_set (m := off) (dig (u)) (by omega)
        refine Good.on ?_
        refine Good.end0 Tryd.results120 ⟨rfl, rfl⟩ (fun w h => ?_)
        have e : decK 1 (u) ++ ys = dig (u) :: ys := rfl
        rw [e] at hd'
        rw [← hd']; exact h
      · have hz : i = 0 := by omega
        subst hz
        refine Good.end0 Tryd.results120 ⟨rfl, rfl⟩ (fun w h => ?_)
        have e : decK 0 (u) ++ ys = ys := rfl
        rw [e] at hd'
        rw [← hd']; exact h
end Go.Proofs.YtnfcbpgckomdfaaDoor
