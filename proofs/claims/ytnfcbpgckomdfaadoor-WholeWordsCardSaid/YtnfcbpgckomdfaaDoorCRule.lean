/- config.rule: a line that tells a rule. -/
import Derived.Test.YtnfcbpgckomdfaaDoorNums
namespace Go.Proofs.YtnfcbpgckomdfaaDoor
open Go.Lib (strCells)
section
variable {C : Cx} {Q0 : Exit → Act → World → Prop} {K : List Fr} {tm : Tm} {l : List HP}
theorem Sat.slcIs {W w : World} {p : Hl} {l : List HP} {e : TypeId} {v : Value} {m sz : Nat} {xs : List Value} (n : Nat) (s : Sat W p l w) (hn : l[n]? = some (slc e sz v xs)) (hsz : 0 < sz) (hm : xs.length = m * sz) : ∃ a c, v = .slice a m c ∧ m ≤ c ∧ (xs ≠ [] → ∃ g, a = some ⟨g, 0, none⟩) := by
  rcases (s.front' n hn).slcOpen with ⟨rfl, rfl, _⟩ | ⟨g, k, cp, rest, rfl, a2, a3, a4, a5, s'⟩
  · have : m = 0 := by
      rcases Nat.eq_zero_or_pos m with h | h
      · exact h
      · have := Nat.mul_pos h hsz; simp at hm; omega
    subst this
    exact ⟨none, 0, rfl, Nat.le_refl _, fun h => absurd rfl h⟩
  · have : k = m := Nat.eq_of_mul_eq_mul_right hsz (by rw [← a2, hm])
    subst this
    exact ⟨_, cp, rfl, a3, fun _ => ⟨g, rfl⟩⟩
theorem Sat.slcCell {W w : World} {p : Hl} {l : List HP} {e : TypeId} {g m c sz j : Nat} {xs : List Value} {u : Value} (n : Nat) (s : Sat W p l w) (hn : l[n]? = some (slc e sz (.slice (some ⟨g, 0, none⟩) m c) xs)) {ad : Addr} (had : ad = ⟨g, j, none⟩) (hj : xs[j]? = some u) : w.cell? ad = some u := by
  subst had
  rcases (s.front' n hn).slcOpen with ⟨e1, _⟩ | ⟨g', k, cp, rest, e1, a2, a3, a4, a5, s'⟩
  · cases e1
  · cases e1
    refine s'.cell 0 rfl ?_
    rw [List.getElem?_append_left (List.getElem?_eq_some_iff.1 hj).1]; exact hj
/-- All but the first element. -/
theorem rdAt.tail {w : World} {g off n c : Nat} {x : Value} {xs : List Value} (h : rdAt w (.slice (some ⟨g, off, none⟩) (n + 1) c) (n + 1) (x :: xs)) (ad : Option Addr) (hc : xs ≠ [] → ad = some ⟨g, off + 1, none⟩) (c' : Nat) : rdAt w (.slice ad n c') n xs := by
  obtain ⟨a, c2, he, h1⟩ := h
  cases he
  refine ⟨ad, c', rfl, fun j u hj => ?_⟩
  rw [hc (by intro e; subst e; simp at hj)]
  obtain ⟨g2, o2, e2, h2⟩ := h1 (j + 1) u (by simpa using hj)
  cases e2
  exact ⟨g, off + 1, rfl, by rw [Nat.add_assoc, Nat.add_comm 1 j]; exact h2⟩
end
theorem splitL_ne (c : UInt8) (bs : List UInt8) : ∃ w ws, splitL c bs = w :: ws := by
  have := splitL_length c bs
  cases h : splitL c bs with
  | nil => rw [h] at this; simp at this
  | cons w ws => exact ⟨w, ws, rfl⟩
theorem splitL_mem (c : UInt8) : ∀ (bs w : List UInt8), w ∈ splitL c bs → w.length ≤ bs.length
  | [], w, h => by simp [splitL] at h; subst h; simp
  | b :: bs, w, h => by
    unfold splitL at h
    split at h
    · simp at h
      rcases h with rfl | h
      · simp
      · have := splitL_mem c bs w h; simp; omega
    · split at h
      · simp at h; subst h; simp
      · rename_i q qs he
        simp at h
        rcases h with rfl | h
        · have := splitL_mem c bs q (by rw [he]; simp); simp; omega
        · have := splitL_mem c bs w (by rw [he]; simp [h]); simp; omega
/-- A word and numbers: the rule that they tell. -/
def ruleW (w : List UInt8) (ns : List Int) : Option RuleD :=
  if w = boundedL ∧ ns.length = 1 then some ⟨0, ns.getD 0 0, 0, 0, 0⟩
  else if w = markedL ∧ ns.length = 1 then some ⟨1, 0, 0, 0, ns.getD 0 0⟩
  else if w = percentL ∧ ns.length = 2 then some ⟨2, 0, ns.getD 0 0, ns.getD 1 0, 0⟩
  else none
def ruleO (s : List UInt8) : Option RuleD := match splitL 32 s with
  | [] => none
  | w :: ws => match numsO ws with
    | none => none
    | some ns => ruleW w ns
def ruleOV (o : Option RuleD) : Value := match o with
  | some r => .tuple #[r.val, .bool true]
  | none => .tuple #[(RuleD.mk 0 0 0 0 0).val, .bool false]
set_option maxHeartbeats 1600000
set_option maxRecDepth 20000
theorem crule_spec (s : List UInt8) (hl : s.length ≤ 100000000) : Spec Tryd.prog 59 #[.string (str s)] Env [] fun r L => r = ruleOV (ruleO s) ∧ L = [] := by
  refine Spec.go (vs := [_]) (hT := tyOk) (hm := mixed0) Tryd.func59 rfl Tryd.ntmps59 rfl ?_
  rintro W p hE
  obtain ⟨w, ws, hsp⟩ := splitL_ne 32 s
  have hcl := countByte_le s 32
  have hlen := splitL_length 32 s
  rw [hsp, List.length_cons] at hlen
  have hmem : ∀ x ∈ ws, x.length ≤ 1000000000 := fun x hx => by
    have := splitL_mem 32 s x (by rw [hsp]; simp [hx])
    omega
  refine Good.on ?_
  refine Good.alloc (us := (RuleD.mk 0 0 0 0 0).cells) (fun g => ?_)
  refine Good.on ?_
  refine Good.callP [] (split_spec s 32 (by omega)) ck16 ?_
  rintro v L rfl
  refine Good.know (fun w' h => h.slcIs (m := ws.length + 1) 0 rfl (by decide) (by rw [hsp]; simp [strC])) ?_
  rintro ⟨a, c, rfl, hc, hg⟩
  obtain ⟨g1, rfl⟩ := hg (by rw [hsp]; simp [strC])
  refine Good.on ?_
  refine Good.val (Yv.sliceSlc 1 (ws.length + 1) rfl rfl rfl rfl rfl rfl rfl ⟨_, rfl⟩ rfl (by omega) (by omega)) ?_
  refine Good.on ?_
  refine Good.callR (numbers_spec _ ws (by omega) hmem) ck58 (fun w' h => ⟨stays_env.at hE h, Rd.nil ?_⟩) ?_
  · have h1 := h.slcRd (m := ws.length + 1) 0 rfl (by decide) (by rw [hsp]; simp [strC])
    rw [hsp] at h1
    refine rdAt.tail (x := .string (str w)) h1 _ (fun hne => ?_) _
    have : ws ≠ [] := fun e => hne (by rw [e]; rfl)
    have := List.length_pos_iff.2 this
    rw [if_neg (by omega)]; rfl
  rintro v L hA
  unfold numsA at hA
  cases hns : numsO ws with
  | none =>
    rw [hns] at hA
    obtain ⟨rfl, rfl⟩ := hA
    refine Good.on ?_
    (refine Good.ifB (fun h => ?_) (fun h => ?_); rotate_left; exact absurd h (by decide))
    refine Good.on ?_
    refine Good.build ?_
    refine Good.on ?_
    refine Good.store 1 ?_
    refine Good.on ?_
    refine Good.ret2 Tryd.results59 (Res.row 1) (Res.tmp rfl) ⟨?_, rfl⟩ (fun _ h => h.clear)
    rw [ruleO, hsp]; simp only; rw [hns]; rfl
  | some ns =>
  rw [hns] at hA
  obtain ⟨hn64, v', rfl, rfl⟩ := hA
  refine Good.know (fun w' h => h.slcIs (m := ns.length) 0 rfl (by decide) (by simp [intsC])) ?_
  rintro ⟨a2, c2, rfl, hc2, hg2⟩
  replace hg2 : 0 < ns.length → ∃ g, a2 = some ⟨g, 0, none⟩ := fun hp => hg2 (fun e => absurd (congrArg List.length e) (by simp only [intsC, List.length_map, List.length_nil]; omega))
  refine Good.on ?_
  (refine Good.ifB (fun h => ?_) (fun h => ?_); exact absurd h (by decide))
  refine Good.on ?_
  refine Good.val (Yv.indexAddr rfl rfl rfl rfl rfl rfl (by omega) (by omega)) ?_
  refine Good.on ?_
  refine Good.loadC (v := .string (str w)) (fun w' h => h.slcCell (j := 0) 1 rfl rfl (by rw [hsp]; rfl)) ?_
  refine Good.on ?_
  refine Good.partB (fun hb => ?_) (fun hb => ?_) <;> refine Good.on ?_
  · have hwb : w = boundedL := by simpa [boundedL] using hb
    refine Good.ifB (fun hb1 => ?_) (fun hb1 => ?_) <;> refine Good.on ?_
    · obtain ⟨n0, rfl⟩ : ∃ n, ns = [n] := by
        have : ns.length = 1 := by simp at hb1; omega
        exact List.length_eq_one_iff.1 this
      obtain ⟨g2, rfl⟩ := hg2 (by simp)
      refine Good.val (Yv.indexAddr rfl rfl rfl rfl rfl rfl (by decide) (by simp)) ?_
      refine Good.on ?_
      refine Good.loadC (v := .int .i64 n0) (fun w' h => h.slcCell (j := 0) 0 rfl rfl rfl) ?_
      refine Good.on ?_
      refine Good.build ?_
      refine Good.on ?_
      refine Good.store 2 ?_
      refine Good.on ?_
      refine Good.ret2 Tryd.results59 (Res.row 2) (Res.tmp rfl) ⟨?_, rfl⟩ (fun _ h => h.clear)
      rw [ruleO, hsp]; simp only; rw [hns]; simp only; rw [ruleW, if_pos ⟨hwb, rfl⟩]; rfl
    have hl1 : ns.length ≠ 1 := by simp at hb1; omega
    refine Good.val (Yv.indexAddr rfl rfl rfl rfl rfl rfl (by omega) (by omega)) ?_
    refine Good.on ?_
    refine Good.loadC (v := .string (str w)) (fun w' h => h.slcCell (j := 0) 1 rfl rfl (by rw [hsp]; rfl)) ?_
    refine Good.on ?_
    refine Good.partB (fun hm => ?_) (fun hm => ?_) <;> refine Good.on ?_
    · simp [hwb, boundedL] at hm
    refine Good.val (Yv.indexAddr rfl rfl rfl rfl rfl rfl (by omega) (by omega)) ?_
    refine Good.on ?_
    refine Good.loadC (v := .string (str w)) (fun w' h => h.slcCell (j := 0) 1 rfl rfl (by rw [hsp]; rfl)) ?_
    refine Good.on ?_
    refine Good.partB (fun hp => ?_) (fun hp => ?_) <;> refine Good.on ?_
    · simp [hwb, boundedL] at hp
    refine Good.build ?_
    refine Good.on ?_
    refine Good.store 2 ?_
    refine Good.on ?_
    refine Good.ret2 Tryd.results59 (Res.row 2) (Res.tmp rfl) ⟨?_, rfl⟩ (fun _ h => h.clear)
    rw [ruleO, hsp]; simp only; rw [hns]; simp only; rw [ruleW, if_neg (fun h => hl1 h.2), if_neg (fun h => hl1 h.2), if_neg (fun h => by rw [hwb] at h; exact absurd h.1 (by decide))]; rfl
  have hwb : w ≠ boundedL := by simpa [boundedL] using hb
  refine Good.val (Yv.indexAddr rfl rfl rfl rfl rfl rfl (by omega) (by omega)) ?_
  refine Good.on ?_
  refine Good.loadC (v := .string (str w)) (fun w' h => h.slcCell (j := 0) 1 rfl rfl (by rw [hsp]; rfl)) ?_
  refine Good.on ?_
  refine Good.partB (fun hm => ?_) (fun hm => ?_) <;> refine Good.on ?_
  · have hwm : w = markedL := by simpa [markedL] using hm
    refine Good.ifB (fun hb1 => ?_) (fun hb1 => ?_) <;> refine Good.on ?_
    · obtain ⟨n0, rfl⟩ : ∃ n, ns = [n] := by
        have : ns.length = 1 := by simp at hb1; omega
        exact List.length_eq_one_iff.1 this
      obtain ⟨g2, rfl⟩ := hg2 (by simp)
      refine Good.val (Yv.indexAddr rfl rfl rfl rfl rfl rfl (by decide) (by simp)) ?_
      refine Good.on ?_
      refine Good.loadC (v := .int .i64 n0) (fun w' h => h.slcCell (j := 0) 0 rfl rfl rfl) ?_
      refine Good.on ?_
      refine Good.build ?_
      refine Good.on ?_
      refine Good.store 2 ?_
      refine Good.on ?_
      refine Good.ret2 Tryd.results59 (Res.row 2) (Res.tmp rfl) ⟨?_, rfl⟩ (fun _ h => h.clear)
      rw [ruleO, hsp]; simp only; rw [hns]; simp only; rw [ruleW, if_neg (fun h => hwb h.1), if_pos ⟨hwm, rfl⟩]; rfl
    have hl1 : ns.length ≠ 1 := by simp at hb1; omega
    refine Good.val (Yv.indexAddr rfl rfl rfl rfl rfl rfl (by omega) (by omega)) ?_
    refine Good.on ?_
    refine Good.loadC (v := .string (str w)) (fun w' h => h.slcCell (j := 0) 1 rfl rfl (by rw [hsp]; rfl)) ?_
    refine Good.on ?_
    refine Good.partB (fun hp => ?_) (fun hp => ?_) <;> refine Good.on ?_
    · simp [hwm, markedL] at hp
    refine Good.build ?_
    refine Good.on ?_
    refine Good.store 2 ?_
    refine Good.on ?_
    refine Good.ret2 Tryd.results59 (Res.row 2) (Res.tmp rfl) ⟨?_, rfl⟩ (fun _ h => h.clear)
    rw [ruleO, hsp]; simp only; rw [hns]; simp only; rw [ruleW, if_neg (fun h => hl1 h.2), if_neg (fun h => hl1 h.2), if_neg (fun h => by rw [hwm] at h; exact absurd h.1 (by decide))]; rfl
  have hwm : w ≠ markedL := by simpa [markedL] using hm
  refine Good.val (Yv.indexAddr rfl rfl rfl rfl rfl rfl (by omega) (by omega)) ?_
  refine Good.on ?_
  refine Good.loadC (v := .string (str w)) (fun w' h => h.slcCell (j := 0) 1 rfl rfl (by rw [hsp]; rfl)) ?_
  refine Good.on ?_
  refine Good.partB (fun hp => ?_) (fun hp => ?_) <;> refine Good.on ?_
  · have hwp : w = percentL := by simpa [percentL] using hp
    refine Good.ifB (fun hb1 => ?_) (fun hb1 => ?_) <;> refine Good.on ?_
    · obtain ⟨n0, n1, rfl⟩ : ∃ n m, ns = [n, m] := by
        have : ns.length = 2 := by simp at hb1; omega
        match ns, this with
        | [a, b], _ => exact ⟨a, b, rfl⟩
      obtain ⟨g2, rfl⟩ := hg2 (by simp)
      refine Good.hold (fun w' => w'.cell? ⟨g2, 0, none⟩ = some (.int .i64 n0) ∧ w'.cell? ⟨g2, 1, none⟩ = some (.int .i64 n1)) (fun w' h => ⟨h.slcCell (j := 0) 0 rfl rfl rfl, h.slcCell (j := 1) 0 rfl rfl rfl⟩) ?_
      refine Good.drawn ?_
      refine Good.dval 1 rfl (Yv.indexAddr rfl rfl rfl rfl rfl rfl (by decide) (by simp)) ?_
      refine Good.dload 2 rfl (fun w h => h.1) ?_
      refine Good.dval 4 rfl (Yv.indexAddr rfl rfl rfl rfl rfl rfl (by decide) (by simp)) ?_
      refine Good.dload 5 rfl (fun w h => h.2) ?_
      refine Good.dval 6 rfl (Yv.build rfl rfl) ?_
      refine Good.doneS 7 rfl (OpW.storeAt 2 rfl rfl rfl rfl rfl rfl rfl rfl rfl rfl ⟨fun w' h => ⟨h.slcCell (j := 0) 0 rfl rfl rfl, h.slcCell (j := 1) 0 rfl rfl rfl⟩, ?_⟩)
      refine Good.drawn ?_
      refine Good.dend ?_
      refine Good.on ?_
      refine Good.ret2 Tryd.results59 (Res.row 2) (Res.tmp rfl) ⟨?_, rfl⟩ (fun _ h => h.clear)
      rw [ruleO, hsp]; simp only; rw [hns]; simp only; rw [ruleW, if_neg (fun h => hwb h.1), if_neg (fun h => hwm h.1), if_pos ⟨hwp, rfl⟩]; rfl
    have hl1 : ns.length ≠ 2 := by simp at hb1; omega
    refine Good.build ?_
    refine Good.on ?_
    refine Good.store 2 ?_
    refine Good.on ?_
    refine Good.ret2 Tryd.results59 (Res.row 2) (Res.tmp rfl) ⟨?_, rfl⟩ (fun _ h => h.clear)
    rw [ruleO, hsp]; simp only; rw [hns]; simp only; rw [ruleW, if_neg (fun h => hwb h.1), if_neg (fun h => hwm h.1), if_neg (fun h => hl1 h.2)]; rfl
  have hwp : w ≠ percentL := by simpa [percentL] using hp
  refine Good.build ?_
  refine Good.on ?_
  refine Good.store 2 ?_
  refine Good.on ?_
  refine Good.ret2 Tryd.results59 (Res.row 2) (Res.tmp rfl) ⟨?_, rfl⟩ (fun _ h => h.clear)
  rw [ruleO, hsp]; simp only; rw [hns]; simp only; rw [ruleW, if_neg (fun h => hwb h.1), if_neg (fun h => hwm h.1), if_neg (fun h => hwp h.1)]; rfl
end Go.Proofs.YtnfcbpgckomdfaaDoor
