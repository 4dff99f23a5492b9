/- config.Parse: lines that tell a configuration. -/
import Derived.Test.YtnfcbpgckomdfaaDoorCRule
namespace Go.Proofs.YtnfcbpgckomdfaaDoor
open Go.Lib (strCells)
theorem Sat.first {W w : World} {p : Hl} {A : HP} {l : List HP} (s : Sat W p (A :: l) w) : Sat W p [A] w := by
  have : (A :: l).Perm (l ++ [A]) := by simpa using List.perm_append_comm (l₁ := [A]) (l₂ := l)
  exact Sat.dropL (s.perm this)
theorem Sat.drop23 {W w : World} {p : Hl} {A B D E : HP} (s : Sat W p [A, B, D, E] w) : Sat W p [A, E] w := by
  have : [A, B, D, E].Perm [B, D, A, E] := (List.Perm.swap B A _).trans (List.Perm.cons B (List.Perm.swap D A _))
  exact Sat.dropL (L := [B, D]) (s.perm this)
def zeroD : ConfD := ⟨[], 0, 0⟩
/-- The rules of lines; the first one at fault, of so many ones. -/
def rulesO : List (List UInt8) → Nat → List RuleD ⊕ Nat
  | [], _ => .inl []
  | s :: r, i => match ruleO s with
    | none => .inr i
    | some x => match rulesO r (i + 1) with
      | .inl xs => .inl (x :: xs)
      | .inr k => .inr k
def headO (s : List UInt8) : Option (Int × Int) := match splitL 32 s with
  | [] => none
  | w :: ws => match numsO ws with
    | none => none
    | some ns => if w = sourceL ∧ ns.length = 2 then some (ns.getD 0 0, ns.getD 1 0) else none
/-- What lines tell, and the line at which they are at fault. -/
def parseO : List (List UInt8) → ConfD × Int
  | [] => (zeroD, 1)
  | s :: r => match headO s with
    | none => (zeroD, 1)
    | some (t, d) => match rulesO r 0 with
      | .inl xs => (⟨xs, t, d⟩, 0)
      | .inr k => (zeroD, (k : Int) + 2)
def parseA (lines : List (List UInt8)) (r : Value) (L : List HP) : Prop := ∃ v, r = .tuple #[(parseO lines).1.val v, .int .i64 (parseO lines).2] ∧ L = [slc 27 5 v (ruleCells (parseO lines).1.rules)]
set_option maxHeartbeats 1600000
set_option maxRecDepth 20000
theorem parse_spec (a : Option Addr) (c : Nat) (lines : List (List UInt8)) (hc : lines.length ≤ c) (hn : lines.length ≤ 1000000) (hl : ∀ s ∈ lines, s.length ≤ 100000000) : Spec Tryd.prog 17 #[.slice a lines.length c] (fun W p => Env W p ∧ Rd (.slice a lines.length c) lines.length (strC lines) W p) [] fun r L => parseA lines r L := by
  refine Spec.go (vs := [_]) (hT := tyOk) (hm := mixed0) Tryd.func17 rfl Tryd.ntmps17 rfl ?_
  rintro W p ⟨hE, rd⟩
  refine Good.on ?_
  refine Good.alloc (us := zeroD.cells (.slice none 0 0)) (fun g => ?_)
  refine Good.on ?_
  refine Good.ifB (fun h0 => ?_) (fun h0 => ?_) <;> refine Good.on ?_
  · have : lines = [] := by simpa using h0
    subst this
    refine Good.build ?_
    refine Good.on ?_
    refine Good.store 0 ?_
    refine Good.on ?_
    refine Good.ret2 Tryd.results17 (Res.row 0) (Res.tmp rfl) ⟨_, rfl, rfl⟩ (fun _ h => Sat.slcNil _ _ h.clear)
  obtain ⟨s, rest, rfl⟩ : ∃ s rest, lines = s :: rest := by
    cases lines with
    | nil => simp at h0
    | cons s r => exact ⟨s, r, rfl⟩
  obtain ⟨g0, off, rfl, hcell⟩ := rd.pos (by simp [strC])
  refine Good.val (Yv.indexAddr rfl rfl rfl rfl rfl rfl (by decide) (by simp)) ?_
  refine Good.on ?_
  refine Good.loadC (v := .string (str s)) (fun w h => by have := hcell _ w h 0 (.string (str s)) rfl; exact this) ?_
  refine Good.on ?_
  have hsl : s.length ≤ 100000000 := hl s (by simp)
  obtain ⟨w, ws, hsp⟩ := splitL_ne 32 s
  have hcl := countByte_le s 32
  have hlen := splitL_length 32 s
  rw [hsp, List.length_cons] at hlen
  have hmem : ∀ x ∈ ws, x.length ≤ 1000000000 := fun x hx => by
    have := splitL_mem 32 s x (by rw [hsp]; simp [hx])
    omega
  refine Good.callP [] (split_spec s 32 (by omega)) ck16 ?_
  rintro v L rfl
  refine Good.know (fun w' h => h.slcIs (m := ws.length + 1) 0 rfl (by decide) (by rw [hsp]; simp [strC])) ?_
  rintro ⟨a1, c1, rfl, hc1, hg⟩
  obtain ⟨g1, rfl⟩ := hg (by rw [hsp]; simp [strC])
  refine Good.on ?_
  refine Good.val (Yv.sliceSlc 1 (ws.length + 1) rfl rfl rfl rfl rfl rfl rfl ⟨_, rfl⟩ rfl (by omega) (by omega)) ?_
  refine Good.on ?_
  refine Good.callR (numbers_spec _ ws (by omega) hmem) ck58 (fun w' h => ⟨stays_env.at hE h, Rd.nil ?_⟩) ?_
  · have h1 := h.slcRd (m := ws.length + 1) 0 rfl (by decide) (by rw [hsp]; simp [strC])
    rw [hsp] at h1
    refine rdAt.tail (x := .string (str w)) h1 _ (fun hne => ?_) _
    have : ws ≠ [] := fun e => hne (by rw [e]; rfl)
    have := List.length_pos_iff.2 this
    rw [if_neg (by omega)]; rfl
  rintro v L hA
  unfold numsA at hA
  cases hns : numsO ws with
  | none =>
    rw [hns] at hA
    obtain ⟨rfl, rfl⟩ := hA
    have hho : headO s = none := by rw [headO, hsp]; simp only; rw [hns]
    have hpo : parseO (s :: rest) = (zeroD, 1) := by rw [parseO, hho]
    refine Good.on ?_
    refine Good.val (Yv.indexAddr rfl rfl rfl rfl rfl rfl (by omega) (by omega)) ?_
    refine Good.on ?_
    refine Good.loadC (v := .string (str w)) (fun w' h => h.slcCell (j := 0) 0 rfl rfl (by rw [hsp]; rfl)) ?_
    refine Good.on ?_
--TAIL
    refine Good.partB (fun ha => ?_) (fun ha => ?_) <;> refine Good.on ?_
    · refine Good.build ?_
      refine Good.on ?_
      refine Good.store 1 ?_
      refine Good.on ?_
      refine Good.ret2 Tryd.results17 (Res.row 1) (Res.tmp rfl) ⟨_, by rw [hpo]; rfl, rfl⟩ (fun _ h => by rw [hpo]; exact Sat.slcNil _ _ h.clear)
    · (refine Good.partB (fun h => ?_) (fun h => ?_); rotate_left; exact absurd h (by decide))
      refine Good.on ?_
      refine Good.build ?_
      refine Good.on ?_
      refine Good.store 1 ?_
      refine Good.on ?_
      refine Good.ret2 Tryd.results17 (Res.row 1) (Res.tmp rfl) ⟨_, by rw [hpo]; rfl, rfl⟩ (fun _ h => by rw [hpo]; exact Sat.slcNil _ _ h.clear)
  | some ns =>
  rw [hns] at hA
  obtain ⟨hn64, v', rfl, rfl⟩ := hA
  refine Good.know (fun w' h => h.slcIs (m := ns.length) 0 rfl (by decide) (by simp [intsC])) ?_
  rintro ⟨a2, c2, rfl, hc2, hg2⟩
  refine Good.on ?_
  refine Good.val (Yv.indexAddr rfl rfl rfl rfl rfl rfl (by omega) (by omega)) ?_
  refine Good.on ?_
  refine Good.loadC (v := .string (str w)) (fun w' h => h.slcCell (j := 0) 1 rfl rfl (by rw [hsp]; rfl)) ?_
  refine Good.on ?_
  refine Good.partB (fun ha => ?_) (fun ha => ?_) <;> refine Good.on ?_
  · have hws : w ≠ sourceL := by simpa [sourceL] using ha
    have hho : headO s = none := by rw [headO, hsp]; simp only; rw [hns]; exact if_neg (fun h => hws h.1)
    have hpo : parseO (s :: rest) = (zeroD, 1) := by rw [parseO, hho]
    refine Good.build ?_
    refine Good.on ?_
    refine Good.store 2 ?_
    refine Good.on ?_
    refine Good.ret2 Tryd.results17 (Res.row 2) (Res.tmp rfl) ⟨_, by rw [hpo]; rfl, rfl⟩ (fun _ h => by rw [hpo]; exact Sat.slcNil _ _ h.clear)
  have hws : w = sourceL := by simpa [sourceL] using ha
  refine Good.partB (fun hb => ?_) (fun hb => ?_) <;> refine Good.on ?_
  · have hlen2 : ns.length ≠ 2 := by simp at hb; omega
    have hho : headO s = none := by rw [headO, hsp]; simp only; rw [hns]; exact if_neg (fun h => hlen2 h.2)
    have hpo : parseO (s :: rest) = (zeroD, 1) := by rw [parseO, hho]
    refine Good.build ?_
    refine Good.on ?_
    refine Good.store 2 ?_
    refine Good.on ?_
    refine Good.ret2 Tryd.results17 (Res.row 2) (Res.tmp rfl) ⟨_, by rw [hpo]; rfl, rfl⟩ (fun _ h => by rw [hpo]; exact Sat.slcNil _ _ h.clear)
  have hlen2 : ns.length = 2 := by simp at hb; omega
  obtain ⟨n0, n1, rfl⟩ : ∃ n m, ns = [n, m] := by
    match ns, hlen2 with
    | [a, b], _ => exact ⟨a, b, rfl⟩
  obtain ⟨g2, rfl⟩ := hg2 (by simp [intsC])
  have hho : headO s = some (n0, n1) := by rw [headO, hsp]; simp only; rw [hns]; exact if_pos ⟨hws, rfl⟩
  refine Good.on ?_
  (refine Good.ifB (fun h => ?_) (fun h => ?_); exact absurd h (by decide))
  refine Good.on ?_
  refine Good.hold (fun w' => w'.cell? ⟨g2, 0, none⟩ = some (.int .i64 n0) ∧ w'.cell? ⟨g2, 1, none⟩ = some (.int .i64 n1)) (fun w' h => ⟨h.slcCell (j := 0) 0 rfl rfl rfl, h.slcCell (j := 1) 0 rfl rfl rfl⟩) ?_
  refine Good.drawn ?_
  refine Good.dval 1 rfl (Yv.indexAddr rfl rfl rfl rfl rfl rfl (by decide) (by simp)) ?_
  refine Good.dload 2 rfl (fun w h => h.1) ?_
  refine Good.dval 4 rfl (Yv.indexAddr rfl rfl rfl rfl rfl rfl (by decide) (by simp)) ?_
  refine Good.dload 5 rfl (fun w h => h.2) ?_
  refine Good.dval 6 rfl (Yv.build rfl rfl) ?_
  refine Good.doneS 7 rfl (OpW.alloc rfl rfl rfl rfl fun g7 => ⟨fun w' h => ⟨h.slcCell (j := 0) 1 rfl rfl rfl, h.slcCell (j := 1) 1 rfl rfl rfl⟩, ?_⟩)
  refine Good.doneS 8 rfl (OpW.storeAt 0 rfl rfl rfl rfl rfl rfl rfl rfl rfl rfl ⟨fun w' h => ⟨h.slcCell (j := 0) 1 rfl rfl rfl, h.slcCell (j := 1) 1 rfl rfl rfl⟩, ?_⟩)
  refine Good.dend ?_
  refine Good.on ?_
  refine Good.val (Yv.sliceSlc 1 (rest.length + 1) rfl rfl rfl rfl rfl rfl rfl ⟨_, rfl⟩ rfl (by omega) hc) ?_
  refine Good.on ?_
  obtain ⟨sa, hsa⟩ : ∃ sa, (if c = 1 then (⟨g0, off, none⟩ : Addr) else (⟨g0, off, none⟩ : Addr).add (1 * ti9.size)) = sa := ⟨_, rfl⟩
  rw [hsa, Nat.add_sub_cancel]
  have hsa' : 0 < rest.length → sa = ⟨g0, off + 1, none⟩ := fun hp => by
    simp only [List.length_cons] at hc
    rw [← hsa, if_neg (by omega)]; rfl
  simp only [List.length_cons] at hn
  refine Good.loop (ι := Nat × List RuleD × Value) (fun x => [(2, .v (.pointer (some ⟨g, 0, none⟩))), (7, .v (.pointer (some ⟨g7, 0, none⟩))), (48, .v (.slice (some sa) rest.length (c - 1))), (49, .v (.int .i64 rest.length)), (50, .v (.int .i64 (x.1 : Int)))])
    (fun x => [slc 27 5 x.2.2 (ruleCells x.2.1), HP.row g7 [x.2.2, .int .i64 n0, .int .i64 n1] 24, HP.row g (zeroD.cells (.slice none 0 0)) 24])
    (fun x => x.1 ≤ rest.length ∧ x.2.1.length = x.1 ∧ rulesO rest 0 = (match rulesO (rest.drop x.1) x.1 with
      | .inl xs => .inl (x.2.1 ++ xs)
      | .inr k => .inr k)) (fun x => rest.length - x.1) (0, [], .slice none 0 0) ⟨by simp, rfl, ?_⟩ ⟨rfl, rfl, rfl, rfl, rfl, trivial⟩ (fun w h => Sat.slcNil _ _ ?_) ?_
  · dsimp only; rw [List.drop_zero]; cases rulesO rest 0 <;> rfl
  · exact (Sat.drop23 h)
  rintro ⟨i, rs, u⟩ ⟨hi, hrl, he⟩
  dsimp only at hi hrl he ⊢
  refine Good.know (fun w' h => h.slcIs (m := rs.length) 0 rfl (by decide) (ruleCells_length _)) ?_
  rintro ⟨a9, c9, rfl, _, _⟩
  refine Good.on ?_
  refine Good.ifD (fun h => ?_) (fun h => ?_) <;> refine Good.on ?_
  rotate_left
  · have hd : rest.drop i = [] := List.drop_eq_nil_of_le (by omega)
    rw [hd] at he
    simp only [rulesO, List.append_nil] at he
    have hpo : parseO (s :: rest) = (⟨rs, n0, n1⟩, 0) := by rw [parseO, hho]; simp only; rw [he]
    refine Good.loadRow 1 ?_
    refine Good.on ?_
    refine Good.store 2 ?_
    refine Good.on ?_
    refine Good.ret2 Tryd.results17 (Res.row 2) (Res.tmp rfl) ⟨.slice a9 rs.length c9, by rw [hpo]; rfl, rfl⟩ (fun _ h => by rw [hpo]; exact Sat.first h)
  have hi' : i < rest.length := by omega
  have hd : rest.drop i = rest[i] :: rest.drop (i + 1) := List.drop_eq_getElem_cons hi'
  obtain ⟨x, hx⟩ : ∃ x, rest[i] = x := ⟨_, rfl⟩
  rw [hd, hx, rulesO] at he
  obtain rfl := hsa' (by omega)
  refine Good.val (Yv.indexAddr rfl rfl rfl rfl rfl rfl (by omega) (by omega)) ?_
  refine Good.on ?_
  refine Good.loadC (v := .string (str x)) (fun w h => ?_) ?_
  · have := hcell _ w h (1 + i) (.string (str x)) (by rw [← hx]; simp [strC, Nat.add_comm 1 i, hi'])
    rw [show ((i : Int)).toNat * ti9.size = i from by simp [ti9], Nat.add_assoc]; exact this
  refine Good.on ?_
  have hxl : x.length ≤ 100000000 := hl x (by rw [← hx]; simp)
  refine Good.callK [] (crule_spec x hxl) stays_env hE ck59 ?_
  rintro r L ⟨rfl, rfl⟩
  cases hro : ruleO x with
  | none =>
    rw [hro] at he
    simp only at he
    have hpo : parseO (s :: rest) = (zeroD, (i : Int) + 2) := by rw [parseO, hho]; simp only; rw [he]
    refine Good.on ?_
    refine Good.alloc (fun g10 => ?_)
    refine Good.on ?_
    refine Good.store 0 ?_
    refine Good.on ?_
    (refine Good.ifB (fun h => ?_) (fun h => ?_); rotate_left; exact absurd h (by decide))
    refine Good.on ?_
    refine Good.build ?_
    refine Good.on ?_
    refine Good.store 3 ?_
    refine Good.on ?_
    refine Good.ret2 Tryd.results17 (Res.row 3) (Res.tmp rfl) ⟨_, by rw [hpo, w64 _ (by omega)]; rfl, rfl⟩ (fun _ h => by rw [hpo]; exact Sat.slcNil _ _ h.clear)
  | some ru =>
    rw [hro] at he
    simp only at he
    refine Good.on ?_
    refine Good.alloc (fun g10 => ?_)
    refine Good.on ?_
    refine Good.store 0 ?_
    refine Good.on ?_
    (refine Good.ifB (fun h => ?_) (fun h => ?_); exact absurd h (by decide))
    refine Good.on ?_
    refine Good.load 2 (v := .slice a9 rs.length c9) ?_
    refine Good.on ?_
    refine Good.loadRow 0 ?_
    refine Good.on ?_
    refine Good.push 1 (fun g' v' => ?_) ?_
    rotate_left
    · rw [ruleCells_length]; simp [ti27]; omega
    refine Good.know (fun w' h => Sat.slcIs (m := rs.length + 1) (xs := ruleCells rs ++ ru.cells) 1 h rfl (by decide) (by rw [List.length_append, ruleCells_length]; show _ + 5 = _; omega)) ?_
    rintro ⟨a8, c8, rfl, _, _⟩
    refine Good.on ?_
    refine Good.store 2 ?_
    refine Good.on ?_
    refine Good.again (i + 1, rs ++ [ru], .slice a8 (rs.length + 1) c8) ⟨⟨by dsimp only; omega, by simp [hrl], ?_⟩, by dsimp only; omega⟩ ⟨rfl, rfl, rfl, rfl, ?_, trivial⟩ (fun w h => ?_)
    · dsimp only; rw [he]; cases rulesO (rest.drop (i + 1)) (i + 1) <;> simp
    · show some (Value.int .i64 _) = _
      rw [w64 _ (by omega)]; rfl
    · dsimp only; rw [ruleCells_snoc]; exact h.tail
end Go.Proofs.YtnfcbpgckomdfaaDoor
