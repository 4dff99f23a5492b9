/- config.Numbers: words that are numbers. -/
import Derived.Test.YtnfcbpgckomdfaaDoorAtoiB
namespace Go.Proofs.YtnfcbpgckomdfaaDoor
open Go.Lib (strCells)
theorem dv_snoc : ∀ (l : List UInt8) (acc : Nat) (c : UInt8), dv acc (l ++ [c]) = (dv acc l).bind fun a => dv a [c]
  | [], acc, c => rfl
  | b :: l, acc, c => by
    rw [List.cons_append, dv, dv]
    split
    · split
      · exact dv_snoc l _ c
      · rfl
    · rfl
theorem dig_nat (n : Nat) : (dig n).toNat = 48 + n % 10 := by
  unfold dig; rw [UInt8.toNat_ofNat']; omega
theorem dv_decL (n : Nat) (h : n < 18446744073709551616) : dv 0 (decL n) = some n := by
  induction n using Nat.strongRecOn with
  | ind n ih =>
    by_cases hn : n < 10
    · rw [decL_lt hn, dv, dig_nat, if_pos (by omega), if_pos (by omega), dv]
      congr 1; omega
    · rw [decL_ge hn, dv_snoc, ih (n / 10) (by omega) (by omega)]
      show dv (n / 10) [dig n] = _
      rw [dv, dig_nat, if_pos (by omega), if_pos (by omega), dv]
      congr 1; omega
theorem decL_ne (n : Nat) : decL n ≠ [] := by
  by_cases hn : n < 10
  · rw [decL_lt hn]; simp
  · rw [decL_ge hn]; simp
theorem puL_decL (n : Nat) (h : n < 18446744073709551616) : puL (decL n) = some n := by rw [puL, if_neg (decL_ne n), dv_decL n h]
theorem decL_digit (n : Nat) : ∀ c ∈ decL n, 48 ≤ c.toNat ∧ c.toNat ≤ 57 := by
  induction n using Nat.strongRecOn with
  | ind n ih =>
    intro c hc
    by_cases hn : n < 10
    · rw [decL_lt hn] at hc
      simp at hc; subst hc; rw [dig_nat]; omega
    · rw [decL_ge hn, List.mem_append] at hc
      rcases hc with hc | hc
      · exact ih (n / 10) (by omega) c hc
      · simp at hc; subst hc; rw [dig_nat]; omega
theorem piL_itoaL {n : Int} (h : I64 n) : piL (itoaL n) = some n := by
  obtain ⟨h1, h2⟩ := h
  by_cases hn : n < 0
  · obtain ⟨m, rfl⟩ : ∃ m : Nat, n = -(m : Int) := ⟨n.natAbs, by omega⟩
    rw [itoaL_neg (by omega), piL, if_neg (by decide), if_pos rfl, negI, puL_decL m (by omega)]
    exact if_pos (by omega)
  · obtain ⟨m, rfl⟩ : ∃ m : Nat, n = (m : Int) := ⟨n.natAbs, by omega⟩
    rw [itoaL_pos]
    have hd := decL_digit m
    have hp := puL_decL m (by omega)
    cases he : decL m with
    | nil => exact absurd he (decL_ne m)
    | cons c r =>
      have := hd c (by rw [he]; simp)
      rw [he] at hp
      rw [piL, if_neg (by intro e; subst e; simp at this), if_neg (by intro e; subst e; simp at this), posI, hp]
      exact if_pos (by omega)
/-- A word's number, if it is told as numbers are. -/
def numW (w : List UInt8) : Option Int := match piL w with
  | some n => if itoaL n = w then some n else none
  | none => none
theorem numW_itoaL {n : Int} (h : I64 n) : numW (itoaL n) = some n := by rw [numW, piL_itoaL h]; exact if_pos rfl
def numsO : List (List UInt8) → Option (List Int)
  | [] => some []
  | w :: ws => match numW w with
    | none => none
    | some n => (numsO ws).map (n :: ·)
theorem numsO_itoaL : ∀ (ns : List Int), (∀ n ∈ ns, I64 n) → numsO (ns.map itoaL) = some ns
  | [], _ => rfl
  | n :: ns, h => by
    rw [List.map_cons, numsO, numW_itoaL (h n (by simp)), numsO_itoaL ns (fun m hm => h m (by simp [hm]))]; rfl
theorem strC_length (l : List (List UInt8)) : (strC l).length = l.length * 1 := by simp [strC]
theorem strC_get (l : List (List UInt8)) (i : Nat) (h : i < l.length) : (strC l)[i]? = some (.string (str l[i])) := by simp [strC, h]
/-- What Numbers answers. -/
def numsA (ws : List (List UInt8)) (r : Value) (L : List HP) : Prop := match numsO ws with
  | some ns => (∀ n ∈ ns, I64 n) ∧ ∃ v, r = .tuple #[v, .bool true] ∧ L = [slc 3 1 v (intsC ns)]
  | none => r = .tuple #[.slice none 0 0, .bool false] ∧ L = []
set_option maxHeartbeats 1600000
set_option maxRecDepth 20000
theorem numbers_spec (v : Value) (ws : List (List UInt8)) (hn : ws.length ≤ 1000000000) (hl : ∀ w ∈ ws, w.length ≤ 1000000000) : Spec Tryd.prog 58 #[v] (fun W p => Env W p ∧ Rd v ws.length (strC ws) W p) [] fun r L => numsA ws r L := by
  refine Spec.go (vs := [_]) (hT := tyOk) (hm := mixed0) Tryd.func58 rfl Tryd.ntmps58 rfl ?_
  rintro W p ⟨hE, rd⟩
  obtain ⟨a, c, rfl⟩ := rd.is
  refine Good.on ?_
  refine Good.loop (ι := Nat × List Int × Value) (fun x => [(4, .v x.2.2), (9, .v (.slice a ws.length c)), (10, .v (.int .i64 ws.length)), (11, .v (.int .i64 (x.1 : Int)))]) (fun x => [slc 3 1 x.2.2 (intsC x.2.1)])
    (fun x => x.1 ≤ ws.length ∧ x.2.1.length = x.1 ∧ (∀ n ∈ x.2.1, I64 n) ∧ numsO ws = (numsO (ws.drop x.1)).map (x.2.1 ++ ·)) (fun x => ws.length - x.1) (0, [], .slice none 0 0) ⟨by simp, rfl, by simp, by simp⟩ ⟨rfl, rfl, rfl, rfl, trivial⟩ (fun _ h => Sat.slcNil _ _ h) ?_
  rintro ⟨i, out, u⟩ ⟨hi, hol, ho, he⟩
  dsimp only at hi hol ho he ⊢
  refine Good.on ?_
  refine Good.ifD (fun h => ?_) (fun h => ?_) <;> refine Good.on ?_
  rotate_left
  · have hd : ws.drop i = [] := List.drop_eq_nil_of_le (by omega)
    rw [hd] at he
    refine Good.ret2 Tryd.results58 (Res.tmp rfl) (Res.tmp rfl) ?_ (fun _ h => h)
    unfold numsA
    rw [he]
    simp only [numsO, Option.map_some, List.append_nil]
    exact ⟨ho, _, rfl, rfl⟩
  have hi' : i < ws.length := by omega
  have hd : ws.drop i = ws[i] :: ws.drop (i + 1) := List.drop_eq_getElem_cons hi'
  obtain ⟨w, hw⟩ : ∃ w, ws[i] = w := ⟨_, rfl⟩
  rw [hd, hw, numsO] at he
  obtain ⟨g, off, rfl, hc⟩ := rd.pos (by rw [strC_length]; omega)
  refine Good.val (Yv.indexAddr rfl rfl rfl rfl rfl rfl (by omega) (by omega)) ?_
  refine Good.on ?_
  refine Good.loadC (v := .string (str w)) (fun w' h => ?_) ?_
  · have := hc _ w' h i _ (strC_get ws i hi')
    rw [hw] at this
    rw [show ((i : Int)).toNat * ti9.size = i from by simp [ti9]]; exact this
  refine Good.on ?_
  have hwl : w.length ≤ 1000000000 := hl w (by rw [← hw]; exact List.getElem_mem hi')
  refine Good.callK [] (atoi_spec w hwl) stays_env hE ck87 ?_
  rintro r L ⟨⟨n, e, hn64, rfl, hA⟩, rfl⟩
  rcases hA with ⟨hp, rfl⟩ | ⟨hp, hnil⟩
  · refine Good.on ?_
    refine Good.val (Yv.ifaceNe rfl rfl rfl rfl rfl rfl) ?_
    refine Good.on ?_
    (refine Good.partB (fun h => ?_) (fun h => ?_); exact absurd h (by decide))
    refine Good.on ?_
    refine Good.callK [] (itoa_spec n hn64) stays_env hE ck80 ?_
    rintro r L ⟨rfl, rfl⟩
    refine Good.on ?_
    refine Good.ifB (fun hne => ?_) (fun hne => ?_) <;> refine Good.on ?_
    · have hx : itoaL n ≠ w := by intro e; rw [e] at hne; simp at hne
      have hnw : numW w = none := by rw [numW, hp]; exact if_neg hx
      rw [hnw] at he
      refine Good.ret2 Tryd.results58 (Res.tmp rfl) (Res.tmp rfl) ?_ (fun _ h => h.clear)
      unfold numsA; rw [he]; exact ⟨rfl, rfl⟩
    · have hx : itoaL n = w := by simpa using hne
      have hnw : numW w = some n := by rw [numW, hp]; exact if_pos hx
      rw [hnw] at he
      refine Good.push 0 (fun g' v' => ?_) ?_
      rotate_left
      · simp [intsC, ti3]; omega
      refine Good.on ?_
      refine Good.again (i + 1, out ++ [n], v') ⟨⟨by dsimp only; omega, by simp [hol], ?_, ?_⟩, by dsimp only; omega⟩ ⟨rfl, rfl, rfl, ?_, trivial⟩ (fun w h => ?_)
      · dsimp only; intro m hm; simp at hm; rcases hm with hm | rfl
        · exact ho m hm
        · exact hn64
      · dsimp only; rw [he]; cases numsO (ws.drop (i + 1)) <;> simp
      · show some (Value.int .i64 _) = _
        rw [w64 _ (by omega)]; rfl
      · simpa [intsC] using h
  · obtain ⟨t, x, rfl⟩ := iface_of hnil
    refine Good.on ?_
    refine Good.val (Yv.ifaceNe rfl rfl rfl rfl rfl rfl) ?_
    refine Good.on ?_
    have hnw : numW w = none := by rw [numW, hp]
    rw [hnw] at he
    (refine Good.partB (fun h => ?_) (fun h => ?_); rotate_left; exact absurd h (by decide))
    refine Good.on ?_
    refine Good.ret2 Tryd.results58 (Res.tmp rfl) (Res.tmp rfl) ?_ (fun _ h => h.clear)
    unfold numsA; rw [he]; exact ⟨rfl, rfl⟩
end Go.Proofs.YtnfcbpgckomdfaaDoor
