/- What is told of a configuration is read again: the plain law. -/
import Derived.Test.YtnfcbpgckomdfaaDoorSpk
namespace Go.Proofs.YtnfcbpgckomdfaaDoor
theorem splitL_join (c : UInt8) : ∀ (l rest : List UInt8), c ∉ l → splitL c (l ++ c :: rest) = l :: splitL c rest
  | [], rest, _ => by rw [List.nil_append, splitL, if_pos rfl]
  | b :: l, rest, h => by
    rw [List.cons_append, splitL, if_neg (fun e => h (by simp [e])), splitL_join c l rest (fun e => h (by simp [e]))]
theorem splitL_last (c : UInt8) : ∀ (l : List UInt8), c ∉ l → splitL c l = [l]
  | [], _ => rfl
  | b :: l, h => by
    rw [splitL, if_neg (fun e => h (by simp [e])), splitL_last c l (fun e => h (by simp [e]))]
theorem itoaL_mem {n : Int} {x : UInt8} (h : x ∈ itoaL n) : x.toNat = 45 ∨ (48 ≤ x.toNat ∧ x.toNat ≤ 57) := by
  unfold itoaL at h
  split at h
  · simp only [List.mem_cons] at h
    rcases h with rfl | h
    · exact .inl rfl
    · exact .inr (decL_digit _ x h)
  · exact .inr (decL_digit _ x h)
theorem itoaL_no {n : Int} {x : UInt8} (h : x.toNat < 45) : x ∉ itoaL n := fun hm => by
  have := itoaL_mem hm; omega
def rlL (r : RuleD) : List UInt8 :=
  if r.kind = 0 then boundedL ++ 32 :: itoaL r.bound
  else if r.kind = 1 then markedL ++ 32 :: itoaL r.sign
  else percentL ++ 32 :: (itoaL r.percent ++ 32 :: itoaL r.window)
def hdL (c : ConfD) : List UInt8 := sourceL ++ 32 :: (itoaL c.timeout ++ 32 :: itoaL c.drift)
theorem onlyB_kind {r : RuleD} (h : onlyB r = true) : r.kind = 0 ∨ r.kind = 1 ∨ r.kind = 2 := by
  unfold onlyB at h
  split at h
  · exact .inl ‹_›
  split at h
  · exact .inr (.inl ‹_›)
  split at h
  · exact .inr (.inr ‹_›)
  · simp at h
theorem rlL_is {r : RuleD} (h : onlyB r = true) : ruleL r = rlL r ++ [10] := by
  rcases onlyB_kind h with e | e | e
  · simp [ruleL, rlL, e]
  · simp [ruleL, rlL, e]
  · simp [ruleL, rlL, e]
theorem hdL_is (c : ConfD) : headL c = hdL c ++ [10] := by simp [headL, hdL]
theorem ten_rl (r : RuleD) : (10 : UInt8) ∉ rlL r := by
  have n1 := fun n : Int => itoaL_no (n := n) (x := 10) (by decide)
  unfold rlL
  split
  · simp [boundedL, n1]
  split
  · simp [markedL, n1]
  · simp [percentL, n1]
theorem ten_hd (c : ConfD) : (10 : UInt8) ∉ hdL c := by
  have n1 := fun n : Int => itoaL_no (n := n) (x := 10) (by decide)
  simp [hdL, sourceL, n1]
theorem ruleO_rl {r : RuleD} (hok : r.ok) (h : onlyB r = true) : ruleO (rlL r) = some r := by
  have n1 := fun n : Int => itoaL_no (n := n) (x := 32) (by decide)
  have w1 : ∀ n : Int, I64 n → numsO [itoaL n] = some [n] := fun n hn => numsO_itoaL [n] (by simpa using hn)
  have w2 : ∀ n m : Int, I64 n → I64 m → numsO [itoaL n, itoaL m] = some [n, m] := fun n m hn hm => numsO_itoaL [n, m] (by simpa using ⟨hn, hm⟩)
  obtain ⟨k, b, p, w, s⟩ := r
  obtain ⟨o1, o2, o3, o4, o5⟩ := hok
  dsimp only at o1 o2 o3 o4 o5
  rcases onlyB_kind h with e | e | e
  · dsimp only at e; subst e
    simp [onlyB] at h
    obtain ⟨⟨rfl, rfl⟩, rfl⟩ := h
    rw [rlL, if_pos rfl, ruleO, splitL_join 32 boundedL _ (by decide), splitL_last 32 _ (n1 _)]
    simp only
    rw [w1 _ o2]
    rfl
  · dsimp only at e; subst e
    simp [onlyB] at h
    obtain ⟨⟨rfl, rfl⟩, rfl⟩ := h
    rw [rlL, if_neg (by simp), if_pos rfl, ruleO, splitL_join 32 markedL _ (by decide), splitL_last 32 _ (n1 _)]
    simp only
    rw [w1 _ o5]
    rfl
  · dsimp only at e; subst e
    simp [onlyB] at h
    obtain ⟨rfl, rfl⟩ := h
    rw [rlL, if_neg (by simp), if_neg (by simp), ruleO, splitL_join 32 percentL _ (by decide), splitL_join 32 _ _ (n1 _), splitL_last 32 _ (n1 _)]
    simp only
    rw [w2 _ _ o3 o4]
    rfl
theorem headO_hd {c : ConfD} (h : c.ok) : headO (hdL c) = some (c.timeout, c.drift) := by
  have n1 := fun n : Int => itoaL_no (n := n) (x := 32) (by decide)
  have w2 : numsO [itoaL c.timeout, itoaL c.drift] = some [c.timeout, c.drift] := numsO_itoaL [c.timeout, c.drift] (by simpa using ⟨h.timeout, h.drift⟩)
  rw [headO, hdL, splitL_join 32 sourceL _ (by decide), splitL_join 32 _ _ (n1 _), splitL_last 32 _ (n1 _)]
  simp only
  rw [w2]
  rfl
theorem rulesO_rl : ∀ (l : List RuleD) (i : Nat), (∀ r ∈ l, r.ok) → (∀ r ∈ l, onlyB r = true) → rulesO (l.map rlL) i = .inl l
  | [], _, _, _ => rfl
  | r :: l, i, h1, h2 => by
    rw [List.map_cons, rulesO, ruleO_rl (h1 r (by simp)) (h2 r (by simp))]
    simp only
    rw [rulesO_rl l (i + 1) (fun x hx => h1 x (by simp [hx])) (fun x hx => h2 x (by simp [hx]))]
theorem split_rules : ∀ (l : List RuleD), (∀ r ∈ l, onlyB r = true) → splitL 10 (rulesL l) = l.map rlL ++ [[]]
  | [], _ => rfl
  | r :: l, h => by
    have ih := split_rules l (fun x hx => h x (by simp [hx]))
    unfold rulesL at ih ⊢
    rw [List.flatMap_cons, rlL_is (h r (by simp)), List.append_assoc, List.singleton_append, splitL_join 10 _ _ (ten_rl r), ih]; rfl
def linesOf (c : ConfD) : List (List UInt8) := hdL c :: c.rules.map rlL
theorem split_print (c : ConfD) (h : ∀ r ∈ c.rules, onlyB r = true) : splitL 10 (printL c) = linesOf c ++ [[]] := by
  rw [printL, hdL_is, List.append_assoc, List.singleton_append, splitL_join 10 _ _ (ten_hd c), split_rules _ h]; rfl
theorem parse_print (c : ConfD) (hok : c.ok) (h : ∀ r ∈ c.rules, onlyB r = true) : parseO (linesOf c) = (c, 0) := by
  rw [linesOf, parseO, headO_hd hok]
  simp only
  rw [rulesO_rl c.rules 0 hok.rules h]
theorem linesOf_len (c : ConfD) : (linesOf c).length = c.rules.length + 1 := by simp [linesOf]
end Go.Proofs.YtnfcbpgckomdfaaDoor
