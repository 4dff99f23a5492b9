/- Merged: Nums CRule Parse Same. -/
import Derived.Test.YtnfcbpgckomdfaaDoorStrc
namespace Go.Proofs.YtnfcbpgckomdfaaDoor
open Go.Lib (strCells)
theorem dv_snoc : ∀ (l : List UInt8) (acc : Nat) (c : UInt8), dv acc (l ++ [c]) = (dv acc l).bind fun a => dv a [c]
  | [], acc, c => rfl
  | b :: l, acc, c => by
    rw [List.cons_append, dv, dv]
    split
    · split
      · exact dv_snoc l _ c
      · rfl
    · rfl
theorem dig_nat (n : Nat) : (dig n).toNat = 48 + n % 10 := by
  unfold dig; rw [UInt8.toNat_ofNat']; omega
theorem dv_decL (n : Nat) (h : n < 18446744073709551616) : dv 0 (decL n) = some n := by
  induction n using Nat.strongRecOn with
  | ind n ih =>
    by_cases hn : n < 10
    · rw [decL_lt hn, dv, dig_nat, if_pos (by omega), if_pos (by omega), dv]
      congr 1; omega
    · rw [decL_ge hn, dv_snoc, ih (n / 10) (by omega) (by omega)]
      show dv (n / 10) [dig n] = _
      rw [dv, dig_nat, if_pos (by omega), if_pos (by omega), dv]
      congr 1; omega
theorem decL_ne (n : Nat) : decL n ≠ [] := by
  by_cases hn : n < 10
  · rw [decL_lt hn]; simp
  · rw [decL_ge hn]; simp
theorem puL_decL (n : Nat) (h : n < 18446744073709551616) : puL (decL n) = some n := by rw [puL, if_neg (decL_ne n), dv_decL n h]
theorem decL_digit (n : Nat) : ∀ c ∈ decL n, 48 ≤ c.toNat ∧ c.toNat ≤ 57 := by
  induction n using Nat.strongRecOn with
  | ind n ih =>
    intro c hc
    by_cases hn : n < 10
    · rw [decL_lt hn] at hc
      simp at hc; subst hc; rw [dig_nat]; omega
    · rw [decL_ge hn, List.mem_append] at hc
      rcases hc with hc | hc
      · exact ih (n / 10) (by omega) c hc
      · simp at hc; subst hc; rw [dig_nat]; omega
theorem piL_itoaL {n : Int} (h : I64 n) : piL (itoaL n) = some n := by
  obtain ⟨h1, h2⟩ := h
  by_cases hn : n < 0
  · obtain ⟨m, rfl⟩ : ∃ m : Nat, n = -(m : Int) := ⟨n.natAbs, by omega⟩
    rw [itoaL_neg (by omega), piL, if_neg (by decide), if_pos rfl, negI, puL_decL m (by omega)]
    exact if_pos (by omega)
  · obtain ⟨m, rfl⟩ : ∃ m : Nat, n = (m : Int) := ⟨n.natAbs, by omega⟩
    rw [itoaL_pos]
    have hd := decL_digit m
    have hp := puL_decL m (by omega)
    cases he : decL m with
    | nil => exact absurd he (decL_ne m)
    | cons c r =>
      have := hd c (by rw [he]; simp)
      rw [he] at hp
      rw [piL, if_neg (by intro e; subst e; simp at this), if_neg (by intro e; subst e; simp at this), posI, hp]
      exact if_pos (by omega)
/-- A word's number, if it is told as numbers are. -/
def numW (w : List UInt8) : Option Int := match piL w with
  | some n => if itoaL n = w then some n else none
  | none => none
theorem numW_itoaL {n : Int} (h : I64 n) : numW (itoaL n) = some n := by rw [numW, piL_itoaL h]; exact if_pos rfl
def numsO : List (List UInt8) → Option (List Int)
  | [] => some []
  | w :: ws => match numW w with
    | none => none
    | some n => (numsO ws).map (n :: ·)
theorem numsO_itoaL : ∀ (ns : List Int), (∀ n ∈ ns, I64 n) → numsO (ns.map itoaL) = some ns
  | [], _ => rfl
  | n :: ns, h => by
    rw [List.map_cons, numsO, numW_itoaL (h n (by simp)), numsO_itoaL ns (fun m hm => h m (by simp [hm]))]; rfl
theorem strC_length (l : List (List UInt8)) : (strC l).length = l.length * 1 := by simp [strC]
theorem strC_get (l : List (List UInt8)) (i : Nat) (h : i < l.length) : (strC l)[i]? = some (.string (str l[i])) := by simp [strC, h]
/-- What Numbers answers. -/
def numsA (ws : List (List UInt8)) (r : Value) (L : List HP) : Prop := match numsO ws with
  | some ns => (∀ n ∈ ns, I64 n) ∧ ∃ v, r = .tuple #[v, .bool true] ∧ L = [slc 3 1 v (intsC ns)]
  | none => r = .tuple #[.slice none 0 0, .bool false] ∧ L = []
set_option maxHeartbeats 1600000
set_option maxRecDepth 20000
theorem numbers_spec (v : Value) (ws : List (List UInt8)) (hn : ws.length ≤ 1000000000) (hl : ∀ w ∈ ws, w.length ≤ 1000000000) : Spec Tryd.prog 58 #[v] (fun W p => Env W p ∧ Rd v ws.length (strC ws) W p) [] fun r L => numsA ws r L := by
  refine Spec.go (vs := [_]) (hT := tyOk) (hm := mixed0) Tryd.func58 rfl Tryd.ntmps58 rfl ?_
  rintro W p ⟨hE, rd⟩
  obtain ⟨a, c, rfl⟩ := rd.is
  refine Good.on ?_
  refine Good.loop (ι := Nat × List Int × Value) (fun x => [(4, .v x.2.2), (9, .v (.slice a ws.length c)), (10, .v (.int .i64 ws.length)), (11, .v (.int .i64 (x.1 : Int)))]) (fun x => [slc 3 1 x.2.2 (intsC x.2.1)])
    (fun x => x.1 ≤ ws.length ∧ x.2.1.length = x.1 ∧ (∀ n ∈ x.2.1, I64 n) ∧ numsO ws = (numsO (ws.drop x.1)).map (x.2.1 ++ ·)) (fun x => ws.length - x.1) (0, [], .slice none 0 0) ⟨by simp, rfl, by simp, by simp⟩ ⟨rfl, rfl, rfl, rfl, trivial⟩ (fun _ h => Sat.slcNil _ _ h) ?_
  rintro ⟨i, out, u⟩ ⟨hi, hol, ho, he⟩
  dsimp only at hi hol ho he ⊢
  refine Good.on ?_
  refine Good.ifD (fun h => ?_) (fun h => ?_) <;> refine Good.on ?_
  rotate_left
  · have hd : ws.drop i = [] := List.drop_eq_nil_of_le (by omega)
    rw [hd] at he
    refine Good.ret2 Tryd.results58 (Res.tmp rfl) (Res.tmp rfl) ?_ (fun _ h => h)
    unfold numsA
    rw [he]
    simp only [numsO, Option.map_some, List.append_nil]
    exact ⟨ho, _, rfl, rfl⟩
  have hi' : i < ws.length := by omega
  have hd : ws.drop i = ws[i] :: ws.drop (i + 1) := List.drop_eq_getElem_cons hi'
  obtain ⟨w, hw⟩ : ∃ w, ws[i] = w := ⟨_, rfl⟩
  rw [hd, hw, numsO] at he
  obtain ⟨g, off, rfl, hc⟩ := rd.pos (by rw [strC_length]; omega)
  refine Good.val (Yv.indexAddr rfl rfl rfl rfl rfl rfl (by omega) (by omega)) ?_
  refine Good.on ?_
  refine Good.loadC (v := .string (str w)) (fun w' h => ?_) ?_
  · have := hc _ w' h i _ (strC_get ws i hi')
    rw [hw] at this
    rw [show ((i : Int)).toNat * ti9.size = i from by simp [ti9]]; exact this
  refine Good.on ?_
  have hwl : w.length ≤ 1000000000 := hl w (by rw [← hw]; exact List.getElem_mem hi')
  refine Good.callK [] (atoi_spec w hwl) stays_env hE ck87 ?_
  rintro r L ⟨⟨n, e, hn64, rfl, hA⟩, rfl⟩
  rcases hA with ⟨hp, rfl⟩ | ⟨hp, hnil⟩
  · refine Good.on ?_
    refine Good.val (Yv.ifaceNe rfl rfl rfl rfl rfl rfl) ?_
    refine Good.on ?_
    (refine Good.partB (fun h => ?_) (fun h => ?_); exact absurd h (by decide))
    refine Good.on ?_
    refine Good.callK [] (itoa_spec n hn64) stays_env hE ck80 ?_
    rintro r L ⟨rfl, rfl⟩
    refine Good.on ?_
    refine Good.ifB (fun hne => ?_) (fun hne => ?_) <;> refine Good.on ?_
    · have hx : itoaL n ≠ w := by intro e; rw [e] at hne; simp at hne
      have hnw : numW w = none := by rw [numW, hp]; exact if_neg hx
      rw [hnw] at he
      refine Good.ret2 Tryd.results58 (Res.tmp rfl) (Res.tmp rfl) ?_ (fun _ h => h.clear)
      unfold numsA; rw [he]; exact ⟨rfl, rfl⟩
    · have hx : itoaL n = w := by simpa using hne
      have hnw : numW w = some n := by rw [numW, hp]; exact if_pos hx
      rw [hnw] at he
      refine Good.push 0 (fun g' v' => ?_) ?_
      rotate_left
      · simp [intsC, ti3]; omega
      refine Good.on ?_
      refine Good.again (i + 1, out ++ [n], v') ⟨⟨by dsimp only; omega, by simp [hol], ?_, ?_⟩, by dsimp only; omega⟩ ⟨rfl, rfl, rfl, ?_, trivial⟩ (fun w h => ?_)
      · dsimp only; intro m hm; simp at hm; rcases hm with hm | rfl
        · exact ho m hm
        · exact hn64
      · dsimp only; rw [he]; cases numsO (ws.drop (i + 1)) <;> simp
      · show some (Value.int .i64 _) = _
        rw [w64 _ (by omega)]; rfl
      · simpa [intsC] using h
  · obtain ⟨t, x, rfl⟩ := iface_of hnil
    refine Good.on ?_
    refine Good.val (Yv.ifaceNe rfl rfl rfl rfl rfl rfl) ?_
    refine Good.on ?_
    have hnw : numW w = none := by rw [numW, hp]
    rw [hnw] at he
    (refine Good.partB (fun h => ?_) (fun h => ?_); rotate_left; exact absurd h (by decide))
    refine Good.on ?_
    refine Good.ret2 Tryd.results58 (Res.tmp rfl) (Res.tmp rfl) ?_ (fun _ h => h.clear)
    unfold numsA; rw [he]; exact ⟨rfl, rfl⟩
end Go.Proofs.YtnfcbpgckomdfaaDoor
namespace Go.Proofs.YtnfcbpgckomdfaaDoor
open Go.Lib (strCells)
section
variable {C : Cx} {Q0 : Exit → Act → World → Prop} {K : List Fr} {tm : Tm} {l : List HP}
theorem Sat.slcIs {W w : World} {p : Hl} {l : List HP} {e : TypeId} {v : Value} {m sz : Nat} {xs : List Value} (n : Nat) (s : Sat W p l w) (hn : l[n]? = some (slc e sz v xs)) (hsz : 0 < sz) (hm : xs.length = m * sz) : ∃ a c, v = .slice a m c ∧ m ≤ c ∧ (xs ≠ [] → ∃ g, a = some ⟨g, 0, none⟩) := by
  rcases (s.front' n hn).slcOpen with ⟨rfl, rfl, _⟩ | ⟨g, k, cp, rest, rfl, a2, a3, a4, a5, s'⟩
  · have : m = 0 := by
      rcases Nat.eq_zero_or_pos m with h | h
      · exact h
      · have := Nat.mul_pos h hsz; simp at hm; omega
    subst this
    exact ⟨none, 0, rfl, Nat.le_refl _, fun h => absurd rfl h⟩
  · have : k = m := Nat.eq_of_mul_eq_mul_right hsz (by rw [← a2, hm])
    subst this
    exact ⟨_, cp, rfl, a3, fun _ => ⟨g, rfl⟩⟩
theorem Sat.slcCell {W w : World} {p : Hl} {l : List HP} {e : TypeId} {g m c sz j : Nat} {xs : List Value} {u : Value} (n : Nat) (s : Sat W p l w) (hn : l[n]? = some (slc e sz (.slice (some ⟨g, 0, none⟩) m c) xs)) {ad : Addr} (had : ad = ⟨g, j, none⟩) (hj : xs[j]? = some u) : w.cell? ad = some u := by
  subst had
  rcases (s.front' n hn).slcOpen with ⟨e1, _⟩ | ⟨g', k, cp, rest, e1, a2, a3, a4, a5, s'⟩
  · cases e1
  · cases e1
    refine s'.cell 0 rfl ?_
    rw [List.getElem?_append_left (List.getElem?_eq_some_iff.1 hj).1]; exact hj
/-- All but the first element. -/
theorem rdAt.tail {w : World} {g off n c : Nat} {x : Value} {xs : List Value} (h : rdAt w (.slice (some ⟨g, off, none⟩) (n + 1) c) (n + 1) (x :: xs)) (ad : Option Addr) (hc : xs ≠ [] → ad = some ⟨g, off + 1, none⟩) (c' : Nat) : rdAt w (.slice ad n c') n xs := by
  obtain ⟨a, c2, he, h1⟩ := h
  cases he
  refine ⟨ad, c', rfl, fun j u hj => ?_⟩
  rw [hc (by intro e; subst e; simp at hj)]
  obtain ⟨g2, o2, e2, h2⟩ := h1 (j + 1) u (by simpa using hj)
  cases e2
  exact ⟨g, off + 1, rfl, by rw [Nat.add_assoc, Nat.add_comm 1 j]; exact h2⟩
end
theorem splitL_ne (c : UInt8) (bs : List UInt8) : ∃ w ws, splitL c bs = w :: ws := by
  have := splitL_length c bs
  cases h : splitL c bs with
  | nil => rw [h] at this; simp at this
  | cons w ws => exact ⟨w, ws, rfl⟩
theorem splitL_mem (c : UInt8) : ∀ (bs w : List UInt8), w ∈ splitL c bs → w.length ≤ bs.length
  | [], w, h => by simp [splitL] at h; subst h; simp
  | b :: bs, w, h => by
    unfold splitL at h
    split at h
    · simp at h
      rcases h with rfl | h
      · simp
      · have := splitL_mem c bs w h; simp; omega
    · split at h
      · simp at h; subst h; simp
      · rename_i q qs he
        simp at h
        rcases h with rfl | h
        · have := splitL_mem c bs q (by rw [he]; simp); simp; omega
        · have := splitL_mem c bs w (by rw [he]; simp [h]); simp; omega
/-- A word and numbers: the rule that they tell. -/
def ruleW (w : List UInt8) (ns : List Int) : Option RuleD :=
  if w = boundedL ∧ ns.length = 1 then some ⟨0, ns.getD 0 0, 0, 0, 0⟩
  else if w = markedL ∧ ns.length = 1 then some ⟨1, 0, 0, 0, ns.getD 0 0⟩
  else if w = percentL ∧ ns.length = 2 then some ⟨2, 0, ns.getD 0 0, ns.getD 1 0, 0⟩
  else none
def ruleO (s : List UInt8) : Option RuleD := match splitL 32 s with
  | [] => none
  | w :: ws => match numsO ws with
    | none => none
    | some ns => ruleW w ns
def ruleOV (o : Option RuleD) : Value := match o with
  | some r => .tuple #[r.val, .bool true]
  | none => .tuple #[(RuleD.mk 0 0 0 0 0).val, .bool false]
set_option maxHeartbeats 1600000
set_option maxRecDepth 20000
theorem crule_spec (s : List UInt8) (hl : s.length ≤ 100000000) : Spec Tryd.prog 59 #[.string (str s)] Env [] fun r L => r = ruleOV (ruleO s) ∧ L = [] := by
  refine Spec.go (vs := [_]) (hT := tyOk) (hm := mixed0) Tryd.func59 rfl Tryd.ntmps59 rfl ?_
  rintro W p hE
  obtain ⟨w, ws, hsp⟩ := splitL_ne 32 s
  have hcl := countByte_le s 32
  have hlen := splitL_length 32 s
  rw [hsp, List.length_cons] at hlen
  have hmem : ∀ x ∈ ws, x.length ≤ 1000000000 := fun x hx => by
    have := splitL_mem 32 s x (by rw [hsp]; simp [hx])
    omega
  refine Good.on ?_
  refine Good.alloc (us := (RuleD.mk 0 0 0 0 0).cells) (fun g => ?_)
  refine Good.on ?_
  refine Good.callP [] (split_spec s 32 (by omega)) ck16 ?_
  rintro v L rfl
  refine Good.know (fun w' h => h.slcIs (m := ws.length + 1) 0 rfl (by decide) (by rw [hsp]; simp [strC])) ?_
  rintro ⟨a, c, rfl, hc, hg⟩
  obtain ⟨g1, rfl⟩ := hg (by rw [hsp]; simp [strC])
  refine Good.on ?_
  refine Good.val (Yv.sliceSlc 1 (ws.length + 1) rfl rfl rfl rfl rfl rfl rfl ⟨_, rfl⟩ rfl (by omega) (by omega)) ?_
  refine Good.on ?_
  refine Good.callR (numbers_spec _ ws (by omega) hmem) ck58 (fun w' h => ⟨stays_env.at hE h, Rd.nil ?_⟩) ?_
  · have h1 := h.slcRd (m := ws.length + 1) 0 rfl (by decide) (by rw [hsp]; simp [strC])
    rw [hsp] at h1
    refine rdAt.tail (x := .string (str w)) h1 _ (fun hne => ?_) _
    have : ws ≠ [] := fun e => hne (by rw [e]; rfl)
    have := List.length_pos_iff.2 this
    rw [if_neg (by omega)]; rfl
  rintro v L hA
  unfold numsA at hA
  cases hns : numsO ws with
  | none =>
    rw [hns] at hA
    obtain ⟨rfl, rfl⟩ := hA
    refine Good.on ?_
    (refine Good.ifB (fun h => ?_) (fun h => ?_); rotate_left; exact absurd h (by decide))
    refine Good.on ?_
    refine Good.build ?_
    refine Good.on ?_
    refine Good.store 1 ?_
    refine Good.on ?_
    refine Good.ret2 Tryd.results59 (Res.row 1) (Res.tmp rfl) ⟨?_, rfl⟩ (fun _ h => h.clear)
    rw [ruleO, hsp]; simp only; rw [hns]; rfl
  | some ns =>
  rw [hns] at hA
  obtain ⟨hn64, v', rfl, rfl⟩ := hA
  refine Good.know (fun w' h => h.slcIs (m := ns.length) 0 rfl (by decide) (by simp [intsC])) ?_
  rintro ⟨a2, c2, rfl, hc2, hg2⟩
  replace hg2 : 0 < ns.length → ∃ g, a2 = some ⟨g, 0, none⟩ := fun hp => hg2 (fun e => absurd (congrArg List.length e) (by simp only [intsC, List.length_map, List.length_nil]; omega))
  refine Good.on ?_
  (refine Good.ifB (fun h => ?_) (fun h => ?_); exact absurd h (by decide))
  refine Good.on ?_
  refine Good.val (Yv.indexAddr rfl rfl rfl rfl rfl rfl (by omega) (by omega)) ?_
  refine Good.on ?_
  refine Good.loadC (v := .string (str w)) (fun w' h => h.slcCell (j := 0) 1 rfl rfl (by rw [hsp]; rfl)) ?_
  refine Good.on ?_
  refine Good.partB (fun hb => ?_) (fun hb => ?_) <;> refine Good.on ?_
  · have hwb : w = boundedL := by simpa [boundedL] using hb
    refine Good.ifB (fun hb1 => ?_) (fun hb1 => ?_) <;> refine Good.on ?_
    · obtain ⟨n0, rfl⟩ : ∃ n, ns = [n] := by
        have : ns.length = 1 := by simp at hb1; omega
        exact List.length_eq_one_iff.1 this
      obtain ⟨g2, rfl⟩ := hg2 (by simp)
      refine Good.val (Yv.indexAddr rfl rfl rfl rfl rfl rfl (by decide) (by simp)) ?_
      refine Good.on ?_
      refine Good.loadC (v := .int .i64 n0) (fun w' h => h.slcCell (j := 0) 0 rfl rfl rfl) ?_
      refine Good.on ?_
      refine Good.build ?_
      refine Good.on ?_
      refine Good.store 2 ?_
      refine Good.on ?_
      refine Good.ret2 Tryd.results59 (Res.row 2) (Res.tmp rfl) ⟨?_, rfl⟩ (fun _ h => h.clear)
      rw [ruleO, hsp]; simp only; rw [hns]; simp only; rw [ruleW, if_pos ⟨hwb, rfl⟩]; rfl
    have hl1 : ns.length ≠ 1 := by simp at hb1; omega
    refine Good.val (Yv.indexAddr rfl rfl rfl rfl rfl rfl (by omega) (by omega)) ?_
    refine Good.on ?_
    refine Good.loadC (v := .string (str w)) (fun w' h => h.slcCell (j := 0) 1 rfl rfl (by rw [hsp]; rfl)) ?_
    refine Good.on ?_
    refine Good.partB (fun hm => ?_) (fun hm => ?_) <;> refine Good.on ?_
    · simp [hwb, boundedL] at hm
    refine Good.val (Yv.indexAddr rfl rfl rfl rfl rfl rfl (by omega) (by omega)) ?_
    refine Good.on ?_
    refine Good.loadC (v := .string (str w)) (fun w' h => h.slcCell (j := 0) 1 rfl rfl (by rw [hsp]; rfl)) ?_
    refine Good.on ?_
    refine Good.partB (fun hp => ?_) (fun hp => ?_) <;> refine Good.on ?_
    · simp [hwb, boundedL] at hp
    refine Good.build ?_
    refine Good.on ?_
    refine Good.store 2 ?_
    refine Good.on ?_
    refine Good.ret2 Tryd.results59 (Res.row 2) (Res.tmp rfl) ⟨?_, rfl⟩ (fun _ h => h.clear)
    rw [ruleO, hsp]; simp only; rw [hns]; simp only; rw [ruleW, if_neg (fun h => hl1 h.2), if_neg (fun h => hl1 h.2), if_neg (fun h => by rw [hwb] at h; exact absurd h.1 (by decide))]; rfl
  have hwb : w ≠ boundedL := by simpa [boundedL] using hb
  refine Good.val (Yv.indexAddr rfl rfl rfl rfl rfl rfl (by omega) (by omega)) ?_
  refine Good.on ?_
  refine Good.loadC (v := .string (str w)) (fun w' h => h.slcCell (j := 0) 1 rfl rfl (by rw [hsp]; rfl)) ?_
  refine Good.on ?_
  refine Good.partB (fun hm => ?_) (fun hm => ?_) <;> refine Good.on ?_
  · have hwm : w = markedL := by simpa [markedL] using hm
    refine Good.ifB (fun hb1 => ?_) (fun hb1 => ?_) <;> refine Good.on ?_
    · obtain ⟨n0, rfl⟩ : ∃ n, ns = [n] := by
        have : ns.length = 1 := by simp at hb1; omega
        exact List.length_eq_one_iff.1 this
      obtain ⟨g2, rfl⟩ := hg2 (by simp)
      refine Good.val (Yv.indexAddr rfl rfl rfl rfl rfl rfl (by decide) (by simp)) ?_
      refine Good.on ?_
      refine Good.loadC (v := .int .i64 n0) (fun w' h => h.slcCell (j := 0) 0 rfl rfl rfl) ?_
      refine Good.on ?_
      refine Good.build ?_
      refine Good.on ?_
      refine Good.store 2 ?_
      refine Good.on ?_
      refine Good.ret2 Tryd.results59 (Res.row 2) (Res.tmp rfl) ⟨?_, rfl⟩ (fun _ h => h.clear)
      rw [ruleO, hsp]; simp only; rw [hns]; simp only; rw [ruleW, if_neg (fun h => hwb h.1), if_pos ⟨hwm, rfl⟩]; rfl
    have hl1 : ns.length ≠ 1 := by simp at hb1; omega
    refine Good.val (Yv.indexAddr rfl rfl rfl rfl rfl rfl (by omega) (by omega)) ?_
    refine Good.on ?_
    refine Good.loadC (v := .string (str w)) (fun w' h => h.slcCell (j := 0) 1 rfl rfl (by rw [hsp]; rfl)) ?_
    refine Good.on ?_
    refine Good.partB (fun hp => ?_) (fun hp => ?_) <;> refine Good.on ?_
    · simp [hwm, markedL] at hp
    refine Good.build ?_
    refine Good.on ?_
    refine Good.store 2 ?_
    refine Good.on ?_
    refine Good.ret2 Tryd.results59 (Res.row 2) (Res.tmp rfl) ⟨?_, rfl⟩ (fun _ h => h.clear)
    rw [ruleO, hsp]; simp only; rw [hns]; simp only; rw [ruleW, if_neg (fun h => hl1 h.2), if_neg (fun h => hl1 h.2), if_neg (fun h => by rw [hwm] at h; exact absurd h.1 (by decide))]; rfl
  have hwm : w ≠ markedL := by simpa [markedL] using hm
  refine Good.val (Yv.indexAddr rfl rfl rfl rfl rfl rfl (by omega) (by omega)) ?_
  refine Good.on ?_
  refine Good.loadC (v := .string (str w)) (fun w' h => h.slcCell (j := 0) 1 rfl rfl (by rw [hsp]; rfl)) ?_
  refine Good.on ?_
  refine Good.partB (fun hp => ?_) (fun hp => ?_) <;> refine Good.on ?_
  · have hwp : w = percentL := by simpa [percentL] using hp
    refine Good.ifB (fun hb1 => ?_) (fun hb1 => ?_) <;> refine Good.on ?_
    · obtain ⟨n0, n1, rfl⟩ : ∃ n m, ns = [n, m] := by
        have : ns.length = 2 := by simp at hb1; omega
        match ns, this with
        | [a, b], _ => exact ⟨a, b, rfl⟩
      obtain ⟨g2, rfl⟩ := hg2 (by simp)
      refine Good.hold (fun w' => w'.cell? ⟨g2, 0, none⟩ = some (.int .i64 n0) ∧ w'.cell? ⟨g2, 1, none⟩ = some (.int .i64 n1)) (fun w' h => ⟨h.slcCell (j := 0) 0 rfl rfl rfl, h.slcCell (j := 1) 0 rfl rfl rfl⟩) ?_
      refine Good.drawn ?_
      refine Good.dval 1 rfl (Yv.indexAddr rfl rfl rfl rfl rfl rfl (by decide) (by simp)) ?_
      refine Good.dload 2 rfl (fun w h => h.1) ?_
      refine Good.dval 4 rfl (Yv.indexAddr rfl rfl rfl rfl rfl rfl (by decide) (by simp)) ?_
      refine Good.dload 5 rfl (fun w h => h.2) ?_
      refine Good.dval 6 rfl (Yv.build rfl rfl) ?_
      refine Good.doneS 7 rfl (OpW.storeAt 2 rfl rfl rfl rfl rfl rfl rfl rfl rfl rfl ⟨fun w' h => ⟨h.slcCell (j := 0) 0 rfl rfl rfl, h.slcCell (j := 1) 0 rfl rfl rfl⟩, ?_⟩)
      refine Good.drawn ?_
      refine Good.dend ?_
      refine Good.on ?_
      refine Good.ret2 Tryd.results59 (Res.row 2) (Res.tmp rfl) ⟨?_, rfl⟩ (fun _ h => h.clear)
      rw [ruleO, hsp]; simp only; rw [hns]; simp only; rw [ruleW, if_neg (fun h => hwb h.1), if_neg (fun h => hwm h.1), if_pos ⟨hwp, rfl⟩]; rfl
    have hl1 : ns.length ≠ 2 := by simp at hb1; omega
    refine Good.build ?_
    refine Good.on ?_
    refine Good.store 2 ?_
    refine Good.on ?_
    refine Good.ret2 Tryd.results59 (Res.row 2) (Res.tmp rfl) ⟨?_, rfl⟩ (fun _ h => h.clear)
    rw [ruleO, hsp]; simp only; rw [hns]; simp only; rw [ruleW, if_neg (fun h => hwb h.1), if_neg (fun h => hwm h.1), if_neg (fun h => hl1 h.2)]; rfl
  have hwp : w ≠ percentL := by simpa [percentL] using hp
  refine Good.build ?_
  refine Good.on ?_
  refine Good.store 2 ?_
  refine Good.on ?_
  refine Good.ret2 Tryd.results59 (Res.row 2) (Res.tmp rfl) ⟨?_, rfl⟩ (fun _ h => h.clear)
  rw [ruleO, hsp]; simp only; rw [hns]; simp only; rw [ruleW, if_neg (fun h => hwb h.1), if_neg (fun h => hwm h.1), if_neg (fun h => hwp h.1)]; rfl
end Go.Proofs.YtnfcbpgckomdfaaDoor
namespace Go.Proofs.YtnfcbpgckomdfaaDoor
open Go.Lib (strCells)
theorem Sat.first {W w : World} {p : Hl} {A : HP} {l : List HP} (s : Sat W p (A :: l) w) : Sat W p [A] w := by
  have : (A :: l).Perm (l ++ [A]) := by simpa using List.perm_append_comm (l₁ := [A]) (l₂ := l)
  exact Sat.dropL (s.perm this)
theorem Sat.drop23 {W w : World} {p : Hl} {A B D E : HP} (s : Sat W p [A, B, D, E] w) : Sat W p [A, E] w := by
  have : [A, B, D, E].Perm [B, D, A, E] := (List.Perm.swap B A _).trans (List.Perm.cons B (List.Perm.swap D A _))
  exact Sat.dropL (L := [B, D]) (s.perm this)
def zeroD : ConfD := ⟨[], 0, 0⟩
/-- The rules of lines; the first one at fault, of so many ones. -/
def rulesO : List (List UInt8) → Nat → List RuleD ⊕ Nat
  | [], _ => .inl []
  | s :: r, i => match ruleO s with
    | none => .inr i
    | some x => match rulesO r (i + 1) with
      | .inl xs => .inl (x :: xs)
      | .inr k => .inr k
def headO (s : List UInt8) : Option (Int × Int) := match splitL 32 s with
  | [] => none
  | w :: ws => match numsO ws with
    | none => none
    | some ns => if w = sourceL ∧ ns.length = 2 then some (ns.getD 0 0, ns.getD 1 0) else none
/-- What lines tell, and the line at which they are at fault. -/
def parseO : List (List UInt8) → ConfD × Int
  | [] => (zeroD, 1)
  | s :: r => match headO s with
    | none => (zeroD, 1)
    | some (t, d) => match rulesO r 0 with
      | .inl xs => (⟨xs, t, d⟩, 0)
      | .inr k => (zeroD, (k : Int) + 2)
def parseA (lines : List (List UInt8)) (r : Value) (L : List HP) : Prop := ∃ v, r = .tuple #[(parseO lines).1.val v, .int .i64 (parseO lines).2] ∧ L = [slc 27 5 v (ruleCells (parseO lines).1.rules)]
set_option maxHeartbeats 1600000
set_option maxRecDepth 20000
theorem parse_spec (a : Option Addr) (c : Nat) (lines : List (List UInt8)) (hc : lines.length ≤ c) (hn : lines.length ≤ 1000000) (hl : ∀ s ∈ lines, s.length ≤ 100000000) : Spec Tryd.prog 17 #[.slice a lines.length c] (fun W p => Env W p ∧ Rd (.slice a lines.length c) lines.length (strC lines) W p) [] fun r L => parseA lines r L := by
  refine Spec.go (vs := [_]) (hT := tyOk) (hm := mixed0) Tryd.func17 rfl Tryd.ntmps17 rfl ?_
  rintro W p ⟨hE, rd⟩
  refine Good.on ?_
  refine Good.alloc (us := zeroD.cells (.slice none 0 0)) (fun g => ?_)
  refine Good.on ?_
  refine Good.ifB (fun h0 => ?_) (fun h0 => ?_) <;> refine Good.on ?_
  · have : lines = [] := by simpa using h0
    subst this
    refine Good.build ?_
    refine Good.on ?_
    refine Good.store 0 ?_
    refine Good.on ?_
    refine Good.ret2 Tryd.results17 (Res.row 0) (Res.tmp rfl) ⟨_, rfl, rfl⟩ (fun _ h => Sat.slcNil _ _ h.clear)
  obtain ⟨s, rest, rfl⟩ : ∃ s rest, lines = s :: rest := by
    cases lines with
    | nil => simp at h0
    | cons s r => exact ⟨s, r, rfl⟩
  obtain ⟨g0, off, rfl, hcell⟩ := rd.pos (by simp [strC])
  refine Good.val (Yv.indexAddr rfl rfl rfl rfl rfl rfl (by decide) (by simp)) ?_
  refine Good.on ?_
  refine Good.loadC (v := .string (str s)) (fun w h => by have := hcell _ w h 0 (.string (str s)) rfl; exact this) ?_
  refine Good.on ?_
  have hsl : s.length ≤ 100000000 := hl s (by simp)
  obtain ⟨w, ws, hsp⟩ := splitL_ne 32 s
  have hcl := countByte_le s 32
  have hlen := splitL_length 32 s
  rw [hsp, List.length_cons] at hlen
  have hmem : ∀ x ∈ ws, x.length ≤ 1000000000 := fun x hx => by
    have := splitL_mem 32 s x (by rw [hsp]; simp [hx])
    omega
  refine Good.callP [] (split_spec s 32 (by omega)) ck16 ?_
  rintro v L rfl
  refine Good.know (fun w' h => h.slcIs (m := ws.length + 1) 0 rfl (by decide) (by rw [hsp]; simp [strC])) ?_
  rintro ⟨a1, c1, rfl, hc1, hg⟩
  obtain ⟨g1, rfl⟩ := hg (by rw [hsp]; simp [strC])
  refine Good.on ?_
  refine Good.val (Yv.sliceSlc 1 (ws.length + 1) rfl rfl rfl rfl rfl rfl rfl ⟨_, rfl⟩ rfl (by omega) (by omega)) ?_
  refine Good.on ?_
  refine Good.callR (numbers_spec _ ws (by omega) hmem) ck58 (fun w' h => ⟨stays_env.at hE h, Rd.nil ?_⟩) ?_
  · have h1 := h.slcRd (m := ws.length + 1) 0 rfl (by decide) (by rw [hsp]; simp [strC])
    rw [hsp] at h1
    refine rdAt.tail (x := .string (str w)) h1 _ (fun hne => ?_) _
    have : ws ≠ [] := fun e => hne (by rw [e]; rfl)
    have := List.length_pos_iff.2 this
    rw [if_neg (by omega)]; rfl
  rintro v L hA
  unfold numsA at hA
  cases hns : numsO ws with
  | none =>
    rw [hns] at hA
    obtain ⟨rfl, rfl⟩ := hA
    have hho : headO s = none := by rw [headO, hsp]; simp only; rw [hns]
    have hpo : parseO (s :: rest) = (zeroD, 1) := by rw [parseO, hho]
    refine Good.on ?_
    refine Good.val (Yv.indexAddr rfl rfl rfl rfl rfl rfl (by omega) (by omega)) ?_
    refine Good.on ?_
    refine Good.loadC (v := .string (str w)) (fun w' h => h.slcCell (j := 0) 0 rfl rfl (by rw [hsp]; rfl)) ?_
    refine Good.on ?_
--TAIL
    refine Good.partB (fun ha => ?_) (fun ha => ?_) <;> refine Good.on ?_
    · refine Good.build ?_
      refine Good.on ?_
      refine Good.store 1 ?_
      refine Good.on ?_
      refine Good.ret2 Tryd.results17 (Res.row 1) (Res.tmp rfl) ⟨_, by rw [hpo]; rfl, rfl⟩ (fun _ h => by rw [hpo]; exact Sat.slcNil _ _ h.clear)
    · (refine Good.partB (fun h => ?_) (fun h => ?_); rotate_left; exact absurd h (by decide))
      refine Good.on ?_
      refine Good.build ?_
      refine Good.on ?_
      refine Good.store 1 ?_
      refine Good.on ?_
      refine Good.ret2 Tryd.results17 (Res.row 1) (Res.tmp rfl) ⟨_, by rw [hpo]; rfl, rfl⟩ (fun _ h => by rw [hpo]; exact Sat.slcNil _ _ h.clear)
  | some ns =>
  rw [hns] at hA
  obtain ⟨hn64, v', rfl, rfl⟩ := hA
  refine Good.know (fun w' h => h.slcIs (m := ns.length) 0 rfl (by decide) (by simp [intsC])) ?_
  rintro ⟨a2, c2, rfl, hc2, hg2⟩
  refine Good.on ?_
  refine Good.val (Yv.indexAddr rfl rfl rfl rfl rfl rfl (by omega) (by omega)) ?_
  refine Good.on ?_
  refine Good.loadC (v := .string (str w)) (fun w' h => h.slcCell (j := 0) 1 rfl rfl (by rw [hsp]; rfl)) ?_
  refine Good.on ?_
  refine Good.partB (fun ha => ?_) (fun ha => ?_) <;> refine Good.on ?_
  · have hws : w ≠ sourceL := by simpa [sourceL] using ha
    have hho : headO s = none := by rw [headO, hsp]; simp only; rw [hns]; exact if_neg (fun h => hws h.1)
    have hpo : parseO (s :: rest) = (zeroD, 1) := by rw [parseO, hho]
    refine Good.build ?_
    refine Good.on ?_
    refine Good.store 2 ?_
    refine Good.on ?_
    refine Good.ret2 Tryd.results17 (Res.row 2) (Res.tmp rfl) ⟨_, by rw [hpo]; rfl, rfl⟩ (fun _ h => by rw [hpo]; exact Sat.slcNil _ _ h.clear)
  have hws : w = sourceL := by simpa [sourceL] using ha
  refine Good.partB (fun hb => ?_) (fun hb => ?_) <;> refine Good.on ?_
  · have hlen2 : ns.length ≠ 2 := by simp at hb; omega
    have hho : headO s = none := by rw [headO, hsp]; simp only; rw [hns]; exact if_neg (fun h => hlen2 h.2)
    have hpo : parseO (s :: rest) = (zeroD, 1) := by rw [parseO, hho]
    refine Good.build ?_
    refine Good.on ?_
    refine Good.store 2 ?_
    refine Good.on ?_
    refine Good.ret2 Tryd.results17 (Res.row 2) (Res.tmp rfl) ⟨_, by rw [hpo]; rfl, rfl⟩ (fun _ h => by rw [hpo]; exact Sat.slcNil _ _ h.clear)
  have hlen2 : ns.length = 2 := by simp at hb; omega
  obtain ⟨n0, n1, rfl⟩ : ∃ n m, ns = [n, m] := by
    match ns, hlen2 with
    | [a, b], _ => exact ⟨a, b, rfl⟩
  obtain ⟨g2, rfl⟩ := hg2 (by simp [intsC])
  have hho : headO s = some (n0, n1) := by rw [headO, hsp]; simp only; rw [hns]; exact if_pos ⟨hws, rfl⟩
  refine Good.on ?_
  (refine Good.ifB (fun h => ?_) (fun h => ?_); exact absurd h (by decide))
  refine Good.on ?_
  refine Good.hold (fun w' => w'.cell? ⟨g2, 0, none⟩ = some (.int .i64 n0) ∧ w'.cell? ⟨g2, 1, none⟩ = some (.int .i64 n1)) (fun w' h => ⟨h.slcCell (j := 0) 0 rfl rfl rfl, h.slcCell (j := 1) 0 rfl rfl rfl⟩) ?_
  refine Good.drawn ?_
  refine Good.dval 1 rfl (Yv.indexAddr rfl rfl rfl rfl rfl rfl (by decide) (by simp)) ?_
  refine Good.dload 2 rfl (fun w h => h.1) ?_
  refine Good.dval 4 rfl (Yv.indexAddr rfl rfl rfl rfl rfl rfl (by decide) (by simp)) ?_
  refine Good.dload 5 rfl (fun w h => h.2) ?_
  refine Good.dval 6 rfl (Yv.build rfl rfl) ?_
  refine Good.doneS 7 rfl (OpW.alloc rfl rfl rfl rfl fun g7 => ⟨fun w' h => ⟨h.slcCell (j := 0) 1 rfl rfl rfl, h.slcCell (j := 1) 1 rfl rfl rfl⟩, ?_⟩)
  refine Good.doneS 8 rfl (OpW.storeAt 0 rfl rfl rfl rfl rfl rfl rfl rfl rfl rfl ⟨fun w' h => ⟨h.slcCell (j := 0) 1 rfl rfl rfl, h.slcCell (j := 1) 1 rfl rfl rfl⟩, ?_⟩)
  refine Good.dend ?_
  refine Good.on ?_
  refine Good.val (Yv.sliceSlc 1 (rest.length + 1) rfl rfl rfl rfl rfl rfl rfl ⟨_, rfl⟩ rfl (by omega) hc) ?_
  refine Good.on ?_
  obtain ⟨sa, hsa⟩ : ∃ sa, (if c = 1 then (⟨g0, off, none⟩ : Addr) else (⟨g0, off, none⟩ : Addr).add (1 * ti9.size)) = sa := ⟨_, rfl⟩
  rw [hsa, Nat.add_sub_cancel]
  have hsa' : 0 < rest.length → sa = ⟨g0, off + 1, none⟩ := fun hp => by
    simp only [List.length_cons] at hc
    rw [← hsa, if_neg (by omega)]; rfl
  simp only [List.length_cons] at hn
  refine Good.loop (ι := Nat × List RuleD × Value) (fun x => [(2, .v (.pointer (some ⟨g, 0, none⟩))), (7, .v (.pointer (some ⟨g7, 0, none⟩))), (48, .v (.slice (some sa) rest.length (c - 1))), (49, .v (.int .i64 rest.length)), (50, .v (.int .i64 (x.1 : Int)))])
    (fun x => [slc 27 5 x.2.2 (ruleCells x.2.1), HP.row g7 [x.2.2, .int .i64 n0, .int .i64 n1] 24, HP.row g (zeroD.cells (.slice none 0 0)) 24])
    (fun x => x.1 ≤ rest.length ∧ x.2.1.length = x.1 ∧ rulesO rest 0 = (match rulesO (rest.drop x.1) x.1 with
      | .inl xs => .inl (x.2.1 ++ xs)
      | .inr k => .inr k)) (fun x => rest.length - x.1) (0, [], .slice none 0 0) ⟨by simp, rfl, ?_⟩ ⟨rfl, rfl, rfl, rfl, rfl, trivial⟩ (fun w h => Sat.slcNil _ _ ?_) ?_
  · dsimp only; rw [List.drop_zero]; cases rulesO rest 0 <;> rfl
  · exact (Sat.drop23 h)
  rintro ⟨i, rs, u⟩ ⟨hi, hrl, he⟩
  dsimp only at hi hrl he ⊢
  refine Good.know (fun w' h => h.slcIs (m := rs.length) 0 rfl (by decide) (ruleCells_length _)) ?_
  rintro ⟨a9, c9, rfl, _, _⟩
  refine Good.on ?_
  refine Good.ifD (fun h => ?_) (fun h => ?_) <;> refine Good.on ?_
  rotate_left
  · have hd : rest.drop i = [] := List.drop_eq_nil_of_le (by omega)
    rw [hd] at he
    simp only [rulesO, List.append_nil] at he
    have hpo : parseO (s :: rest) = (⟨rs, n0, n1⟩, 0) := by rw [parseO, hho]; simp only; rw [he]
    refine Good.loadRow 1 ?_
    refine Good.on ?_
    refine Good.store 2 ?_
    refine Good.on ?_
    refine Good.ret2 Tryd.results17 (Res.row 2) (Res.tmp rfl) ⟨.slice a9 rs.length c9, by rw [hpo]; rfl, rfl⟩ (fun _ h => by rw [hpo]; exact Sat.first h)
  have hi' : i < rest.length := by omega
  have hd : rest.drop i = rest[i] :: rest.drop (i + 1) := List.drop_eq_getElem_cons hi'
  obtain ⟨x, hx⟩ : ∃ x, rest[i] = x := ⟨_, rfl⟩
  rw [hd, hx, rulesO] at he
  obtain rfl := hsa' (by omega)
  refine Good.val (Yv.indexAddr rfl rfl rfl rfl rfl rfl (by omega) (by omega)) ?_
  refine Good.on ?_
  refine Good.loadC (v := .string (str x)) (fun w h => ?_) ?_
  · have := hcell _ w h (1 + i) (.string (str x)) (by rw [← hx]; simp [strC, Nat.add_comm 1 i, hi'])
    rw [show ((i : Int)).toNat * ti9.size = i from by simp [ti9], Nat.add_assoc]; exact this
  refine Good.on ?_
  have hxl : x.length ≤ 100000000 := hl x (by rw [← hx]; simp)
  refine Good.callK [] (crule_spec x hxl) stays_env hE ck59 ?_
  rintro r L ⟨rfl, rfl⟩
  cases hro : ruleO x with
  | none =>
    rw [hro] at he
    simp only at he
    have hpo : parseO (s :: rest) = (zeroD, (i : Int) + 2) := by rw [parseO, hho]; simp only; rw [he]
    refine Good.on ?_
    refine Good.alloc (fun g10 => ?_)
    refine Good.on ?_
    refine Good.store 0 ?_
    refine Good.on ?_
    (refine Good.ifB (fun h => ?_) (fun h => ?_); rotate_left; exact absurd h (by decide))
    refine Good.on ?_
    refine Good.build ?_
    refine Good.on ?_
    refine Good.store 3 ?_
    refine Good.on ?_
    refine Good.ret2 Tryd.results17 (Res.row 3) (Res.tmp rfl) ⟨_, by rw [hpo, w64 _ (by omega)]; rfl, rfl⟩ (fun _ h => by rw [hpo]; exact Sat.slcNil _ _ h.clear)
  | some ru =>
    rw [hro] at he
    simp only at he
    refine Good.on ?_
    refine Good.alloc (fun g10 => ?_)
    refine Good.on ?_
    refine Good.store 0 ?_
    refine Good.on ?_
    (refine Good.ifB (fun h => ?_) (fun h => ?_); exact absurd h (by decide))
    refine Good.on ?_
    refine Good.load 2 (v := .slice a9 rs.length c9) ?_
    refine Good.on ?_
    refine Good.loadRow 0 ?_
    refine Good.on ?_
    refine Good.push 1 (fun g' v' => ?_) ?_
    rotate_left
    · rw [ruleCells_length]; simp [ti27]; omega
    refine Good.know (fun w' h => Sat.slcIs (m := rs.length + 1) (xs := ruleCells rs ++ ru.cells) 1 h rfl (by decide) (by rw [List.length_append, ruleCells_length]; show _ + 5 = _; omega)) ?_
    rintro ⟨a8, c8, rfl, _, _⟩
    refine Good.on ?_
    refine Good.store 2 ?_
    refine Good.on ?_
    refine Good.again (i + 1, rs ++ [ru], .slice a8 (rs.length + 1) c8) ⟨⟨by dsimp only; omega, by simp [hrl], ?_⟩, by dsimp only; omega⟩ ⟨rfl, rfl, rfl, rfl, ?_, trivial⟩ (fun w h => ?_)
    · dsimp only; rw [he]; cases rulesO (rest.drop (i + 1)) (i + 1) <;> simp
    · show some (Value.int .i64 _) = _
      rw [w64 _ (by omega)]; rfl
    · dsimp only; rw [ruleCells_snoc]; exact h.tail
end Go.Proofs.YtnfcbpgckomdfaaDoor
namespace Go.Proofs.YtnfcbpgckomdfaaDoor
open Go.Lib (strCells)
theorem ruleFields : (Tryd.prog.fieldsOf 27).toList = [{ name := "Kind", type := 3, offset := 0, embedded := false, tag := "", pkgPath := "", byteOffset := 0 }, { name := "Bound", type := 3, offset := 1, embedded := false, tag := "", pkgPath := "", byteOffset := 8 }, { name := "Percent", type := 3, offset := 2, embedded := false, tag := "", pkgPath := "", byteOffset := 16 }, { name := "Window", type := 3, offset := 3, embedded := false, tag := "", pkgPath := "", byteOffset := 24 }, { name := "Sign", type := 3, offset := 4, embedded := false, tag := "", pkgPath := "", byteOffset := 32 }] := by
  unfold Program.fieldsOf; rw [tk27.under]; rfl
theorem ruleStruct : Tryd.prog.underlying 27 = some (.struct (Tryd.prog.fieldsOf 27)) := by
  unfold Program.fieldsOf; rw [tk27.under]; rfl
theorem RuleD.val_eq (r : RuleD) : r.val = .agg #[.int .i64 r.kind, .int .i64 r.bound, .int .i64 r.percent, .int .i64 r.window, .int .i64 r.sign] := rfl
theorem ruleEq (w : World) (d : Nat) (a b : RuleD) : (Op.equalIn (d + 2) 27 a.val b.val).run Tryd.prog w = .ok (decide (a = b)) w := by
  rw [RuleD.val_eq, RuleD.val_eq, run_equalIn_struct w (d + 1) _ _ _ ruleStruct (by kernel_rfl), ruleFields]
  have e1 : ∀ x y : Int, (Op.equalIn (d + 1) 3 (.int .i64 x) (.int .i64 y)).run Tryd.prog w = .ok (x == y) w := fun x y => run_equalIn_int w d _ _ .i64 x y tk3.under
  obtain ⟨a0, a1, a2, a3, a4⟩ := a
  obtain ⟨b0, b1, b2, b3, b4⟩ := b
  have pp : ∀ (xs : Array Value) (k : Nat) (v : Value), xs[k]? = some v → (part 3 xs k).run Tryd.prog w = .ok v w := fun xs k v h => run_part_plain w (by kernel_rfl) h
  have q0 : ∀ x0 x1 x2 x3 x4 : Int, (part 3 #[.int .i64 x0, .int .i64 x1, .int .i64 x2, .int .i64 x3, .int .i64 x4] 0).run Tryd.prog w = .ok (.int .i64 x0) w := fun _ _ _ _ _ => pp _ 0 _ rfl
  have q1 : ∀ x0 x1 x2 x3 x4 : Int, (part 3 #[.int .i64 x0, .int .i64 x1, .int .i64 x2, .int .i64 x3, .int .i64 x4] 1).run Tryd.prog w = .ok (.int .i64 x1) w := fun _ _ _ _ _ => pp _ 1 _ rfl
  have q2 : ∀ x0 x1 x2 x3 x4 : Int, (part 3 #[.int .i64 x0, .int .i64 x1, .int .i64 x2, .int .i64 x3, .int .i64 x4] 2).run Tryd.prog w = .ok (.int .i64 x2) w := fun _ _ _ _ _ => pp _ 2 _ rfl
  have q3 : ∀ x0 x1 x2 x3 x4 : Int, (part 3 #[.int .i64 x0, .int .i64 x1, .int .i64 x2, .int .i64 x3, .int .i64 x4] 3).run Tryd.prog w = .ok (.int .i64 x3) w := fun _ _ _ _ _ => pp _ 3 _ rfl
  have q4 : ∀ x0 x1 x2 x3 x4 : Int, (part 3 #[.int .i64 x0, .int .i64 x1, .int .i64 x2, .int .i64 x3, .int .i64 x4] 4).run Tryd.prog w = .ok (.int .i64 x4) w := fun _ _ _ _ _ => pp _ 4 _ rfl
  simp only [Op.eqFields, Sem.run_bind, Sem.run_ite, q0, q1, q2, q3, q4, e1, Result.andThen_ok, Sem.run_pure]
  have n1 : ("Kind" ≠ "_") := by decide
  have n2 : ("Bound" ≠ "_") := by decide
  have n3 : ("Percent" ≠ "_") := by decide
  have n4 : ("Window" ≠ "_") := by decide
  have n5 : ("Sign" ≠ "_") := by decide
  simp only [n1, n2, n3, n4, n5, not_false_eq_true, if_true, ne_eq]
  by_cases h1 : a0 = b0 <;> by_cases h2 : a1 = b1 <;> by_cases h3 : a2 = b2 <;> by_cases h4 : a3 = b3 <;> by_cases h5 : a4 = b4 <;> simp [h1, h2, h3, h4, h5]
section
variable {W : World} {p : Hl} {tm : Tm} {n : Nat} {o : Oper}
theorem ruleGuard (w : World) (op : BinOp) (x y : Operand) (a b : RuleD) : (eqGuard op 27 x y a.val b.val).run Tryd.prog w = .ok () w := run_eqGuard_agg w op _ x y _ _ (by kernel_rfl)
theorem Yv.ruleNe {x y : Operand} {t' : TypeId} {a b : RuleD} (ho : o.op = .binOp .neq 27 x y t') (hx : opd tm x = some (.v a.val)) (hy : opd tm y = some (.v b.val)) : Yv ⟨Tryd.prog, tyT, tyOk, mixed0, n, W, p⟩ tm o (.bool (!decide (a = b))) := fun ac hA w => by
  have hx' : ac.eval x = a.val := hA.eval hx
  have hy' : ac.eval y = b.val := hA.eval hy
  unfold execOp
  simp only [ho, hx', hy', Sem.run_bind, ruleGuard, Result.andThen_ok]
  rw [show (binOp .neq 27 a.val b.val).run Tryd.prog w = _ from run_neq_struct w _ _ _]
  rw [show (Op.equalIn 10000 27 (.agg a.cells.toArray) (.agg b.cells.toArray)).run Tryd.prog w = _ from ruleEq w 9998 a b]
  rfl
theorem Yv.ruleEql {x y : Operand} {t' : TypeId} {a b : RuleD} (ho : o.op = .binOp .eql 27 x y t') (hx : opd tm x = some (.v a.val)) (hy : opd tm y = some (.v b.val)) : Yv ⟨Tryd.prog, tyT, tyOk, mixed0, n, W, p⟩ tm o (.bool (decide (a = b))) := fun ac hA w => by
  have hx' : ac.eval x = a.val := hA.eval hx
  have hy' : ac.eval y = b.val := hA.eval hy
  unfold execOp
  simp only [ho, hx', hy', Sem.run_bind, ruleGuard, Result.andThen_ok]
  rw [show (binOp .eql 27 a.val b.val).run Tryd.prog w = _ from run_eql_struct w _ _ _]
  rw [show (Op.equalIn 10000 27 (.agg a.cells.toArray) (.agg b.cells.toArray)).run Tryd.prog w = _ from ruleEq w 9998 a b]
  rfl
end
set_option maxHeartbeats 1600000
set_option maxRecDepth 20000
theorem same19_spec (va vb : Value) (x y : ConfD) (h1 : x.rules.length ≤ 1000000) (h2 : y.rules.length ≤ 1000000) : Spec Tryd.prog 18 #[x.val va, y.val vb] (fun W p => Rd va x.rules.length (ruleCells x.rules) W p ∧ Rd vb y.rules.length (ruleCells y.rules) W p) [] fun r L => r = .bool (decide (x = y)) ∧ L = [] := by
  refine Spec.go (vs := [_, _]) (hT := tyOk) (hm := mixed0) Tryd.func18 rfl Tryd.ntmps18 rfl ?_
  rintro W p ⟨ra, rb⟩
  obtain ⟨a, ca, rfl⟩ := ra.is
  obtain ⟨b, cb, rfl⟩ := rb.is
  obtain ⟨l, t, d⟩ := x
  obtain ⟨m, t', d'⟩ := y
  dsimp only at h1 h2 ra rb
  refine Good.on ?_
  refine Good.box (us := (ConfD.mk l t d).cells (.slice a l.length ca)) (fun g => ?_)
  refine Good.on ?_
  refine Good.box (us := (ConfD.mk m t' d').cells (.slice b m.length cb)) (fun g' => ?_)
  refine Good.on ?_
  refine Good.load 1 (v := .int .i64 t) ?_
  refine Good.on ?_
  refine Good.load 0 (v := .int .i64 t') ?_
  refine Good.on ?_
  refine Good.partB (fun ht => ?_) (fun ht => ?_) <;> refine Good.on ?_
  · refine Good.ret1 Tryd.results18 (Res.tmp rfl) ⟨?_, rfl⟩ (fun _ h => h.clear)
    have : t ≠ t' := by simpa using ht
    simp [this]
  have ht : t = t' := by simpa using ht
  subst ht
  refine Good.load 1 (v := .int .i64 d) ?_
  refine Good.on ?_
  refine Good.load 0 (v := .int .i64 d') ?_
  refine Good.on ?_
  refine Good.partB (fun hd => ?_) (fun hd => ?_) <;> refine Good.on ?_
  · refine Good.ret1 Tryd.results18 (Res.tmp rfl) ⟨?_, rfl⟩ (fun _ h => h.clear)
    have : d ≠ d' := by simpa using hd
    simp [this]
  have hd : d = d' := by simpa using hd
  subst hd
  refine Good.load 1 (v := .slice a l.length ca) ?_
  refine Good.on ?_
  refine Good.load 0 (v := .slice b m.length cb) ?_
  refine Good.on ?_
  refine Good.ifB (fun hl => ?_) (fun hl => ?_) <;> refine Good.on ?_
  · refine Good.ret1 Tryd.results18 (Res.tmp rfl) ⟨?_, rfl⟩ (fun _ h => h.clear)
    have : l ≠ m := by intro e; subst e; simp at hl
    simp [this]
  have hlm : l.length = m.length := by simp at hl; omega
  refine Good.loop (ι := Nat) (fun i => [(2, .v (.pointer (some ⟨g, 0, none⟩))), (3, .v (.pointer (some ⟨g', 0, none⟩))), (5, .v (.int .i64 (i : Int)))]) (fun _ => [HP.row g' ((ConfD.mk m t d).cells (.slice b m.length cb)) 24, HP.row g ((ConfD.mk l t d).cells (.slice a l.length ca)) 24])
    (fun i => i ≤ l.length ∧ l.take i = m.take i) (fun i => l.length - i) 0 ⟨by simp, by simp⟩ ⟨rfl, rfl, rfl, trivial⟩ (fun _ h => h) ?_
  rintro i ⟨hi, hti⟩
  refine Good.on ?_
  refine Good.load 1 (v := .slice a l.length ca) ?_
  refine Good.on ?_
  refine Good.ifD (fun h => ?_) (fun h => ?_) <;> refine Good.on ?_
  rotate_left
  · have : i = l.length := by omega
    subst this
    refine Good.ret1 Tryd.results18 (Res.tmp rfl) ⟨?_, rfl⟩ (fun _ h => h.clear)
    have : l = m := by
      rw [List.take_length, hlm, List.take_length] at hti; exact hti
    simp [this]
  have hi' : i < l.length := by omega
  have hr : l[i]? = some l[i] := List.getElem?_eq_getElem hi'
  have hs : m[i]? = some (m[i]'(by omega)) := List.getElem?_eq_getElem (by omega)
  obtain ⟨g0, off, rfl, hc⟩ := ra.pos (by rw [ruleCells_length]; omega)
  obtain ⟨g0', off', rfl, hc'⟩ := rb.pos (by rw [ruleCells_length]; omega)
  refine Good.drawn ?_
  refine Good.hold (fun w => (CellAt ⟨g, 0, none⟩ (.slice (some ⟨g0, off, none⟩) l.length ca) w ∧ CellAt ⟨g', 0, none⟩ (.slice (some ⟨g0', off', none⟩) m.length cb) w) ∧ (∀ j v, l[i].cells[j]? = some v → w.cell? ⟨g0, off + i * 5 + j, none⟩ = some v) ∧ (∀ j v, (m[i]'(by omega)).cells[j]? = some v → w.cell? ⟨g0', off' + i * 5 + j, none⟩ = some v)) (fun w h => ⟨⟨h.cell 1 rfl rfl, h.cell 0 rfl rfl⟩, fun j v hj => ?_, fun j v hj => ?_⟩) ?_
  · have := hc _ w h _ _ (ruleCells_get l i _ hr j v hj)
    rw [← Nat.add_assoc] at this; exact this
  · have := hc' _ w h _ _ (ruleCells_get m i _ hs j v hj)
    rw [← Nat.add_assoc] at this; exact this
  refine Good.dload 1 rfl (fun w h => h.1.1) ?_
  refine Good.dload 6 rfl (fun w h => h.1.2) ?_
  refine Good.dval 3 rfl (Yv.indexAddr rfl rfl rfl rfl rfl rfl (by omega) (by omega)) ?_
  refine Good.dval 8 rfl (Yv.indexAddr rfl rfl rfl rfl rfl rfl (by omega) (by omega)) ?_
  refine Good.dloadRow 4 l[i].cells rfl (fun w h => h.2.1) ?_
  refine Good.dloadRow 9 (m[i]'(by omega)).cells rfl (fun w h => h.2.2) ?_
  refine Good.dval 10 rfl (Yv.ruleNe (a := l[i]) (b := m[i]'(by omega)) rfl rfl rfl) ?_
  refine Good.dend ?_
  refine Good.on ?_
  refine Good.ifB (fun h2 => ?_) (fun h2 => ?_) <;> refine Good.on ?_
  · refine Good.ret1 Tryd.results18 (Res.tmp rfl) ⟨?_, rfl⟩ (fun _ h => h.clear)
    have : l ≠ m := fun e => by subst e; simp at h2
    simp [this]
  · have he : l[i] = m[i]'(by omega) := by simpa using h2
    refine Good.again (i + 1) ⟨⟨by omega, ?_⟩, by omega⟩ ⟨rfl, rfl, ?_, trivial⟩ (fun _ h => h)
    · rw [List.take_succ_eq_append_getElem hi', List.take_succ_eq_append_getElem (by omega), hti, he]
    · show some (Value.int .i64 _) = _
      rw [w64 _ (by omega)]; rfl
end Go.Proofs.YtnfcbpgckomdfaaDoor
