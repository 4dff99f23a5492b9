/- strconv.Atoi. -/
import Derived.Test.YtnfcbpgckomdfaaDoorAtoi
namespace Go.Proofs.YtnfcbpgckomdfaaDoor
open Go.Lib (strCells)
set_option maxHeartbeats 1600000
set_option maxRecDepth 20000
theorem iAtoi_spec (bs : List UInt8) (hl : bs.length ≤ 1000000000) : Spec Tryd.prog 109 #[.string (str bs)] noFacts [] fun r L => piA bs r ∧ L = [] := by
  refine Spec.go (vs := [_]) (hT := tyOk) (hm := mixed0) Tryd.func109 rfl Tryd.ntmps109 rfl ?_
  intro W p _
  refine Good.on ?_
  rw [str_size]
  refine Good.partD (fun hp => ?_) (fun hp => ?_) <;> refine Good.on ?_
  rotate_left
  · refine Good.callP [] (parseInt_spec (bs) (by first | omega | (simp only [List.length_cons]; omega))) ck129 ?_
    rintro v L ⟨⟨n, hn, hA⟩, rfl⟩
    rcases hA with ⟨hA, rfl⟩ | ⟨k, hk, hA, rfl⟩
    · refine Good.on ?_
      refine Good.ret2 Tryd.results109 (Res.tmp rfl) (Res.tmp rfl) ⟨⟨n, hn, .inl ⟨hA, rfl⟩⟩, rfl⟩ (fun _ h => h.clear)
    · refine Good.on ?_
      refine Good.ret2 Tryd.results109 (Res.tmp rfl) (Res.tmp rfl) ⟨⟨n, hn, .inr ⟨k, hk, hA, rfl⟩⟩, rfl⟩ (fun _ h => h.clear)
  refine Good.ifD (fun h19 => ?_) (fun h19 => ?_) <;> refine Good.on ?_
  rotate_left
  · refine Good.callP [] (parseInt_spec (bs) (by first | omega | (simp only [List.length_cons]; omega))) ck129 ?_
    rintro v L ⟨⟨n, hn, hA⟩, rfl⟩
    rcases hA with ⟨hA, rfl⟩ | ⟨k, hk, hA, rfl⟩
    · refine Good.on ?_
      refine Good.ret2 Tryd.results109 (Res.tmp rfl) (Res.tmp rfl) ⟨⟨n, hn, .inl ⟨hA, rfl⟩⟩, rfl⟩ (fun _ h => h.clear)
    · refine Good.on ?_
      refine Good.ret2 Tryd.results109 (Res.tmp rfl) (Res.tmp rfl) ⟨⟨n, hn, .inr ⟨k, hk, hA, rfl⟩⟩, rfl⟩ (fun _ h => h.clear)
  obtain ⟨c, r, rfl⟩ : ∃ c r, bs = c :: r := by
    cases bs with
    | nil => simp at hp
    | cons c r => exact ⟨c, r, rfl⟩
  simp only [List.length_cons] at hl h19
  refine Good.val (Yv.index (n := 0) (b := c) rfl rfl rfl rfl rfl (by decide) rfl) ?_
  refine Good.on ?_
  refine Good.partB (fun hm => ?_) (fun hm => ?_) <;> refine Good.on ?_
  · have hcc : c = 45 := by
      have : c.toNat = 45 := by simp at hm; omega
      exact UInt8.toNat_inj.1 this
    refine Good.val (Yv.sliceStr 1 (r.length + 1) rfl rfl rfl rfl rfl rfl ⟨_, rfl⟩ rfl (by omega) (by simp)) ?_
    rw [show (((c :: r).take (r.length + 1)).drop 1) = r from by rw [← List.length_cons (a := c), List.take_length]; rfl]
    refine Good.on ?_
    rw [str_size]
    refine Good.ifD (fun hz => ?_) (fun hz => ?_) <;> refine Good.on ?_
    · refine Good.ret2 Tryd.results109 (Res.tmp rfl) (Res.tmp rfl) ⟨⟨0, ⟨by decide, by decide⟩, .inr ⟨2, .inr rfl, ?_, rfl⟩⟩, rfl⟩ (fun _ h => h.clear)
      obtain rfl : r = [] := List.eq_nil_of_length_eq_zero (by omega)
      rw [piL, if_neg (by rw [hcc]; decide), if_pos hcc, negI, puL, if_pos rfl]
    obtain ⟨q, hq⟩ : ∃ q, r = q := ⟨_, rfl⟩
    have hql : q.length ≤ 18 := by rw [← hq]; (first | omega | (simp only [List.length_cons]; omega))
    have hqn : q ≠ [] := by rw [← hq]; (intro e; subst e; simp at hz)
    have hpi : piL (c :: q) = negI q := by rw [← hq, piL]; rw [if_neg (by rw [hcc]; decide), if_pos hcc]
    rw [hq]
    refine Good.strBytes fun g cap hcap => ?_
    refine Good.on ?_
    refine Good.loop (ι := Nat × Nat) (fun x => [(5, .v (.string (str (c :: q)))), (6, .v (.int .i64 (x.2 : Int))), (47, .v (.slice (some ⟨g, 0, none⟩) q.length cap)), (48, .v (.int .i64 q.length)), (49, .v (.int .i64 (x.1 : Int)))]) (fun _ => [rawB 5 g cap q])
      (fun x => x.1 ≤ q.length ∧ x.2 < 10 ^ x.1 ∧ dv x.2 (q.drop x.1) = dv 0 q) (fun x => q.length - x.1) (0, 0) ⟨by simp, by simp, rfl⟩ ⟨rfl, rfl, rfl, rfl, rfl, trivial⟩ (fun _ h => h) ?_
    rintro ⟨i, acc⟩ ⟨hi, hacc, hg⟩
    dsimp only at hi hacc hg ⊢
    have h10 : 10 ^ i ≤ 10 ^ 18 := Nat.pow_le_pow_right (by decide) (by omega)
    have h18 : 10 ^ 18 = 1000000000000000000 := by decide
    refine Good.on ?_
    refine Good.ifD (fun h => ?_) (fun h => ?_) <;> refine Good.on ?_
    rotate_left
    · have hd : q.drop i = [] := List.drop_eq_nil_of_le (by omega)
      rw [hd, dv] at hg
      have hpu : puL q = some acc := by rw [puL, if_neg hqn, ← hg]
      refine Good.val (Yv.index (n := 0) (b := c) rfl rfl rfl rfl rfl (by decide) rfl) ?_
      refine Good.on ?_
      refine Good.ifB (fun h45 => ?_) (fun h45 => ?_) <;> refine Good.on ?_
      rotate_left
      · exact absurd (show ((c.toNat : Int) == 45) = true by rw [hcc]; rfl) (by rw [h45]; decide)
      refine Good.ret2 Tryd.results109 (Res.tmp rfl) (Res.tmp rfl) ⟨⟨-(acc : Int), ⟨by omega, by omega⟩, .inl ⟨?_, ?_⟩⟩, rfl⟩ (fun _ h => h.clear)
      · rw [hpi, negI, hpu]; exact if_pos (by omega)
      · rw [w64 _ (by omega)]; congr 4; omega
    have hi' : i < q.length := by omega
    have h17 : 10 ^ i ≤ 10 ^ 17 := Nat.pow_le_pow_right (by decide) (by omega)
    have h17' : 10 ^ 17 = 100000000000000000 := by decide
    obtain ⟨b, hb⟩ : ∃ b, q[i]? = some b := ⟨_, List.getElem?_eq_getElem hi'⟩
    have hd : q.drop i = b :: q.drop (i + 1) := by
      rw [List.drop_eq_getElem_cons hi']; congr 1
      rw [List.getElem?_eq_getElem hi'] at hb; exact Option.some.inj hb
    rw [hd, dv] at hg
    have hbb : b.toNat < 256 := UInt8.toNat_lt b
    refine Good.val (Yv.indexAddr rfl rfl rfl rfl rfl rfl (by omega) (by omega)) ?_
    refine Good.on ?_
    refine Good.loadRaw 0 (b := b) ?_ ?_
    · simpa [ti5] using hb
    refine Good.on ?_
    by_cases hdig : 48 ≤ b.toNat ∧ b.toNat ≤ 57
    · have hw : IntKind.u8.wrap ((b.toNat : Int) - 48) = ((b.toNat - 48 : Nat) : Int) := by
        rw [show (b.toNat : Int) - 48 = ((b.toNat - 48 : Nat) : Int) from by omega]; exact u8w _ (by omega)
      rw [hw]
      rw [if_pos hdig] at hg
      obtain ⟨d, hdd⟩ : ∃ d, b.toNat - 48 = d := ⟨_, rfl⟩
      have hd10 : d ≤ 9 := by omega
      rw [hdd] at hg ⊢
      rw [if_pos (by omega)] at hg
      refine Good.ifD (fun h9 => ?_) (fun h9 => ?_)
      · omega
      refine Good.on ?_
      rw [w64 ((acc : Int) * 10) (by omega), w64 (d : Int) (by omega), w64 ((acc : Int) * 10 + (d : Int)) (by omega), show (acc : Int) * 10 + (d : Int) = ((acc * 10 + d : Nat) : Int) from by omega]
      refine Good.again (i + 1, acc * 10 + d) ⟨⟨by dsimp only; omega, by dsimp only; rw [Nat.pow_succ]; omega, hg⟩, by dsimp only; omega⟩ ⟨rfl, rfl, rfl, rfl, ?_, trivial⟩ (fun _ h => h)
      show some (Value.int .i64 _) = _
      rw [w64 _ (by omega)]; rfl
    · rw [if_neg hdig] at hg
      have hw : ∃ e : Nat, 9 < e ∧ IntKind.u8.wrap ((b.toNat : Int) - 48) = (e : Int) := by
        by_cases h48 : 48 ≤ b.toNat
        · exact ⟨b.toNat - 48, by omega, by rw [show (b.toNat : Int) - 48 = ((b.toNat - 48 : Nat) : Int) from by omega]; exact u8w _ (by omega)⟩
        · exact ⟨b.toNat + 208, by omega, by simp [IntKind.wrap, IntKind.bits, IntKind.signed]; omega⟩
      obtain ⟨e, he, hw⟩ := hw
      rw [hw]
      refine Good.ifD (fun h9 => ?_) (fun h9 => ?_)
      rotate_left
      · omega
      refine Good.on ?_
      refine Good.ret2 Tryd.results109 (Res.tmp rfl) (Res.tmp rfl) ⟨⟨0, ⟨by decide, by decide⟩, .inr ⟨2, .inr rfl, ?_, rfl⟩⟩, rfl⟩ (fun _ h => h.clear)
      rw [hpi, negI, puL, if_neg hqn, ← hg]
  have h45n : c ≠ 45 := by
    intro e; subst e; simp at hm
  refine Good.val (Yv.index (n := 0) (b := c) rfl rfl rfl rfl rfl (by decide) rfl) ?_
  refine Good.on ?_
  refine Good.ifB (fun h43 => ?_) (fun h43 => ?_) <;> refine Good.on ?_
  · have hcc : c = 43 := by
      have : c.toNat = 43 := by simp at h43; omega
      exact UInt8.toNat_inj.1 this
    refine Good.val (Yv.sliceStr 1 (r.length + 1) rfl rfl rfl rfl rfl rfl ⟨_, rfl⟩ rfl (by omega) (by simp)) ?_
    rw [show (((c :: r).take (r.length + 1)).drop 1) = r from by rw [← List.length_cons (a := c), List.take_length]; rfl]
    refine Good.on ?_
    rw [str_size]
    refine Good.ifD (fun hz => ?_) (fun hz => ?_) <;> refine Good.on ?_
    · refine Good.ret2 Tryd.results109 (Res.tmp rfl) (Res.tmp rfl) ⟨⟨0, ⟨by decide, by decide⟩, .inr ⟨2, .inr rfl, ?_, rfl⟩⟩, rfl⟩ (fun _ h => h.clear)
      obtain rfl : r = [] := List.eq_nil_of_length_eq_zero (by omega)
      rw [piL, if_pos hcc, posI, puL, if_pos rfl]
    obtain ⟨q, hq⟩ : ∃ q, r = q := ⟨_, rfl⟩
    have hql : q.length ≤ 18 := by rw [← hq]; (first | omega | (simp only [List.length_cons]; omega))
    have hqn : q ≠ [] := by rw [← hq]; (intro e; subst e; simp at hz)
    have hpi : piL (c :: q) = posI q := by rw [← hq, piL]; rw [if_pos hcc]
    rw [hq]
    refine Good.strBytes fun g cap hcap => ?_
    refine Good.on ?_
    refine Good.loop (ι := Nat × Nat) (fun x => [(5, .v (.string (str (c :: q)))), (6, .v (.int .i64 (x.2 : Int))), (47, .v (.slice (some ⟨g, 0, none⟩) q.length cap)), (48, .v (.int .i64 q.length)), (49, .v (.int .i64 (x.1 : Int)))]) (fun _ => [rawB 5 g cap q])
      (fun x => x.1 ≤ q.length ∧ x.2 < 10 ^ x.1 ∧ dv x.2 (q.drop x.1) = dv 0 q) (fun x => q.length - x.1) (0, 0) ⟨by simp, by simp, rfl⟩ ⟨rfl, rfl, rfl, rfl, rfl, trivial⟩ (fun _ h => h) ?_
    rintro ⟨i, acc⟩ ⟨hi, hacc, hg⟩
    dsimp only at hi hacc hg ⊢
    have h10 : 10 ^ i ≤ 10 ^ 18 := Nat.pow_le_pow_right (by decide) (by omega)
    have h18 : 10 ^ 18 = 1000000000000000000 := by decide
    refine Good.on ?_
    refine Good.ifD (fun h => ?_) (fun h => ?_) <;> refine Good.on ?_
    rotate_left
    · have hd : q.drop i = [] := List.drop_eq_nil_of_le (by omega)
      rw [hd, dv] at hg
      have hpu : puL q = some acc := by rw [puL, if_neg hqn, ← hg]
      refine Good.val (Yv.index (n := 0) (b := c) rfl rfl rfl rfl rfl (by decide) rfl) ?_
      refine Good.on ?_
      refine Good.ifB (fun h45 => ?_) (fun h45 => ?_) <;> refine Good.on ?_
      · exact absurd (show c = 45 from by
          have : c.toNat = 45 := by simp at h45; omega
          exact UInt8.toNat_inj.1 this) h45n
      refine Good.ret2 Tryd.results109 (Res.tmp rfl) (Res.tmp rfl) ⟨⟨(acc : Int), ⟨by omega, by omega⟩, .inl ⟨?_, rfl⟩⟩, rfl⟩ (fun _ h => h.clear)
      rw [hpi, posI, hpu]; exact if_pos (by omega)
    have hi' : i < q.length := by omega
    have h17 : 10 ^ i ≤ 10 ^ 17 := Nat.pow_le_pow_right (by decide) (by omega)
    have h17' : 10 ^ 17 = 100000000000000000 := by decide
    obtain ⟨b, hb⟩ : ∃ b, q[i]? = some b := ⟨_, List.getElem?_eq_getElem hi'⟩
    have hd : q.drop i = b :: q.drop (i + 1) := by
      rw [List.drop_eq_getElem_cons hi']; congr 1
      rw [List.getElem?_eq_getElem hi'] at hb; exact Option.some.inj hb
    rw [hd, dv] at hg
    have hbb : b.toNat < 256 := UInt8.toNat_lt b
    refine Good.val (Yv.indexAddr rfl rfl rfl rfl rfl rfl (by omega) (by omega)) ?_
    refine Good.on ?_
    refine Good.loadRaw 0 (b := b) ?_ ?_
    · simpa [ti5] using hb
    refine Good.on ?_
    by_cases hdig : 48 ≤ b.toNat ∧ b.toNat ≤ 57
    · have hw : IntKind.u8.wrap ((b.toNat : Int) - 48) = ((b.toNat - 48 : Nat) : Int) := by
        rw [show (b.toNat : Int) - 48 = ((b.toNat - 48 : Nat) : Int) from by omega]; exact u8w _ (by omega)
      rw [hw]
      rw [if_pos hdig] at hg
      obtain ⟨d, hdd⟩ : ∃ d, b.toNat - 48 = d := ⟨_, rfl⟩
      have hd10 : d ≤ 9 := by omega
      rw [hdd] at hg ⊢
      rw [if_pos (by omega)] at hg
      refine Good.ifD (fun h9 => ?_) (fun h9 => ?_)
      · omega
      refine Good.on ?_
      rw [w64 ((acc : Int) * 10) (by omega), w64 (d : Int) (by omega), w64 ((acc : Int) * 10 + (d : Int)) (by omega), show (acc : Int) * 10 + (d : Int) = ((acc * 10 + d : Nat) : Int) from by omega]
      refine Good.again (i + 1, acc * 10 + d) ⟨⟨by dsimp only; omega, by dsimp only; rw [Nat.pow_succ]; omega, hg⟩, by dsimp only; omega⟩ ⟨rfl, rfl, rfl, rfl, ?_, trivial⟩ (fun _ h => h)
      show some (Value.int .i64 _) = _
      rw [w64 _ (by omega)]; rfl
    · rw [if_neg hdig] at hg
      have hw : ∃ e : Nat, 9 < e ∧ IntKind.u8.wrap ((b.toNat : Int) - 48) = (e : Int) := by
        by_cases h48 : 48 ≤ b.toNat
        · exact ⟨b.toNat - 48, by omega, by rw [show (b.toNat : Int) - 48 = ((b.toNat - 48 : Nat) : Int) from by omega]; exact u8w _ (by omega)⟩
        · exact ⟨b.toNat + 208, by omega, by simp [IntKind.wrap, IntKind.bits, IntKind.signed]; omega⟩
      obtain ⟨e, he, hw⟩ := hw
      rw [hw]
      refine Good.ifD (fun h9 => ?_) (fun h9 => ?_)
      rotate_left
      · omega
      refine Good.on ?_
      refine Good.ret2 Tryd.results109 (Res.tmp rfl) (Res.tmp rfl) ⟨⟨0, ⟨by decide, by decide⟩, .inr ⟨2, .inr rfl, ?_, rfl⟩⟩, rfl⟩ (fun _ h => h.clear)
      rw [hpi, posI, puL, if_neg hqn, ← hg]
  have h43n : c ≠ 43 := by
    intro e; subst e; simp at h43
  obtain ⟨q, hq⟩ : ∃ q, c :: r = q := ⟨_, rfl⟩
  have hql : q.length ≤ 18 := by rw [← hq]; (first | omega | (simp only [List.length_cons]; omega))
  have hqn : q ≠ [] := by rw [← hq]; simp
  have hpi : piL (q) = posI q := by rw [← hq, piL]; rw [if_neg h43n, if_neg h45n]
  rw [hq]
  refine Good.strBytes fun g cap hcap => ?_
  refine Good.on ?_
  refine Good.loop (ι := Nat × Nat) (fun x => [(5, .v (.string (str (q)))), (6, .v (.int .i64 (x.2 : Int))), (47, .v (.slice (some ⟨g, 0, none⟩) q.length cap)), (48, .v (.int .i64 q.length)), (49, .v (.int .i64 (x.1 : Int)))]) (fun _ => [rawB 5 g cap q])
    (fun x => x.1 ≤ q.length ∧ x.2 < 10 ^ x.1 ∧ dv x.2 (q.drop x.1) = dv 0 q) (fun x => q.length - x.1) (0, 0) ⟨by simp, by simp, rfl⟩ ⟨rfl, rfl, rfl, rfl, rfl, trivial⟩ (fun _ h => h) ?_
  rintro ⟨i, acc⟩ ⟨hi, hacc, hg⟩
  dsimp only at hi hacc hg ⊢
  have h10 : 10 ^ i ≤ 10 ^ 18 := Nat.pow_le_pow_right (by decide) (by omega)
  have h18 : 10 ^ 18 = 1000000000000000000 := by decide
  refine Good.on ?_
  refine Good.ifD (fun h => ?_) (fun h => ?_) <;> refine Good.on ?_
  rotate_left
  · have hd : q.drop i = [] := List.drop_eq_nil_of_le (by omega)
    rw [hd, dv] at hg
    have hpu : puL q = some acc := by rw [puL, if_neg hqn, ← hg]
    refine Good.val (Yv.index (n := 0) (b := c) rfl rfl rfl rfl rfl (by decide) (by rw [← hq]; rfl)) ?_
    refine Good.on ?_
    refine Good.ifB (fun h45 => ?_) (fun h45 => ?_) <;> refine Good.on ?_
    · exact absurd (show c = 45 from by
        have : c.toNat = 45 := by simp at h45; omega
        exact UInt8.toNat_inj.1 this) h45n
    refine Good.ret2 Tryd.results109 (Res.tmp rfl) (Res.tmp rfl) ⟨⟨(acc : Int), ⟨by omega, by omega⟩, .inl ⟨?_, rfl⟩⟩, rfl⟩ (fun _ h => h.clear)
    rw [hpi, posI, hpu]; exact if_pos (by omega)
  have hi' : i < q.length := by omega
  have h17 : 10 ^ i ≤ 10 ^ 17 := Nat.pow_le_pow_right (by decide) (by omega)
  have h17' : 10 ^ 17 = 100000000000000000 := by decide
  obtain ⟨b, hb⟩ : ∃ b, q[i]? = some b := ⟨_, List.getElem?_eq_getElem hi'⟩
  have hd : q.drop i = b :: q.drop (i + 1) := by
    rw [List.drop_eq_getElem_cons hi']; congr 1
    rw [List.getElem?_eq_getElem hi'] at hb; exact Option.some.inj hb
  rw [hd, dv] at hg
  have hbb : b.toNat < 256 := UInt8.toNat_lt b
  refine Good.val (Yv.indexAddr rfl rfl rfl rfl rfl rfl (by omega) (by omega)) ?_
  refine Good.on ?_
  refine Good.loadRaw 0 (b := b) ?_ ?_
  · simpa [ti5] using hb
  refine Good.on ?_
  by_cases hdig : 48 ≤ b.toNat ∧ b.toNat ≤ 57
  · have hw : IntKind.u8.wrap ((b.toNat : Int) - 48) = ((b.toNat - 48 : Nat) : Int) := by
      rw [show (b.toNat : Int) - 48 = ((b.toNat - 48 : Nat) : Int) from by omega]; exact u8w _ (by omega)
    rw [hw]
    rw [if_pos hdig] at hg
    obtain ⟨d, hdd⟩ : ∃ d, b.toNat - 48 = d := ⟨_, rfl⟩
    have hd10 : d ≤ 9 := by omega
    rw [hdd] at hg ⊢
    rw [if_pos (by omega)] at hg
    refine Good.ifD (fun h9 => ?_) (fun h9 => ?_)
    · omega
    refine Good.on ?_
    rw [w64 ((acc : Int) * 10) (by omega), w64 (d : Int) (by omega), w64 ((acc : Int) * 10 + (d : Int)) (by omega), show (acc : Int) * 10 + (d : Int) = ((acc * 10 + d : Nat) : Int) from by omega]
    refine Good.again (i + 1, acc * 10 + d) ⟨⟨by dsimp only; omega, by dsimp only; rw [Nat.pow_succ]; omega, hg⟩, by dsimp only; omega⟩ ⟨rfl, rfl, rfl, rfl, ?_, trivial⟩ (fun _ h => h)
    show some (Value.int .i64 _) = _
    rw [w64 _ (by omega)]; rfl
  · rw [if_neg hdig] at hg
    have hw : ∃ e : Nat, 9 < e ∧ IntKind.u8.wrap ((b.toNat : Int) - 48) = (e : Int) := by
      by_cases h48 : 48 ≤ b.toNat
      · exact ⟨b.toNat - 48, by omega, by rw [show (b.toNat : Int) - 48 = ((b.toNat - 48 : Nat) : Int) from by omega]; exact u8w _ (by omega)⟩
      · exact ⟨b.toNat + 208, by omega, by simp [IntKind.wrap, IntKind.bits, IntKind.signed]; omega⟩
    obtain ⟨e, he, hw⟩ := hw
    rw [hw]
    refine Good.ifD (fun h9 => ?_) (fun h9 => ?_)
    rotate_left
    · omega
    refine Good.on ?_
    refine Good.ret2 Tryd.results109 (Res.tmp rfl) (Res.tmp rfl) ⟨⟨0, ⟨by decide, by decide⟩, .inr ⟨2, .inr rfl, ?_, rfl⟩⟩, rfl⟩ (fun _ h => h.clear)
    rw [hpi, posI, puL, if_neg hqn, ← hg]
theorem atoi_spec (bs : List UInt8) (hl : bs.length ≤ 1000000000) : Spec Tryd.prog 87 #[.string (str bs)] Env [] fun r L => (∃ n e, I64 n ∧ r = .tuple #[.int .i64 n, e] ∧ ((piL bs = some n ∧ e = .nilIface) ∨ (piL bs = none ∧ nilB e = some false))) ∧ L = [] := by
  refine Spec.go (vs := [_]) (hT := tyOk) (hm := mixed0) Tryd.func87 rfl Tryd.ntmps87 rfl ?_
  intro W p hE
  refine Good.on ?_
  refine Good.callP [] (iAtoi_spec bs hl) ck109 ?_
  rintro v L ⟨⟨n, hn, hA⟩, rfl⟩
  rcases hA with ⟨hA, rfl⟩ | ⟨k, hk, hA, rfl⟩
  · refine Good.on ?_
    refine Good.val (Yv.ifaceNe rfl rfl rfl rfl rfl rfl) ?_
    refine Good.on ?_
    (refine Good.ifB (fun h => ?_) (fun h => ?_); exact absurd h (by decide))
    refine Good.on ?_
    refine Good.ret2 Tryd.results87 (Res.tmp rfl) (Res.tmp rfl) ⟨⟨n, .nilIface, hn, rfl, .inl ⟨hA, rfl⟩⟩, rfl⟩ (fun _ h => h.clear)
  · refine Good.on ?_
    refine Good.val (Yv.ifaceNe rfl rfl rfl rfl rfl rfl) ?_
    refine Good.on ?_
    (refine Good.ifB (fun h => ?_) (fun h => ?_); rotate_left; exact absurd h (by decide))
    refine Good.on ?_
    refine Good.callK [] (toError_spec [65, 116, 111, 105] bs 0 0 k (by omega) hk) stays_env hE ck110 ?_
    rintro e L ⟨he, A, B, rfl⟩
    refine Good.on ?_
    refine Good.ret2 Tryd.results87 (Res.tmp rfl) (Res.tmp rfl) ⟨⟨n, e, hn, rfl, .inr ⟨hA, he⟩⟩, rfl⟩ (fun _ h => h.clear)
end Go.Proofs.YtnfcbpgckomdfaaDoor
