/- tidewaitertop.WholeWords. -/
import Derived.Test.YtnfcbpgckomdfaaDoorChRead
import Derived.Test.YtnfcbpgckomdfaaDoorTopBack
namespace Go.Proofs.YtnfcbpgckomdfaaDoor
open Go.Lib (strCells)
theorem splitL_snoc (c : UInt8) : ∀ b : List UInt8, splitL c (b ++ [c]) = splitL c b ++ [[]]
  | [] => by simp [splitL]
  | x :: b => by
    have ih := splitL_snoc c b
    rw [List.cons_append, splitL, splitL]
    by_cases h : x = c
    · rw [if_pos h, if_pos h, ih]; rfl
    · rw [if_neg h, if_neg h, ih]
      obtain ⟨w, ws, hw⟩ := splitL_ne c b
      rw [hw]; rfl
theorem print_ends (c : ConfD) (h : ∀ r ∈ c.rules, onlyB r = true) : ∃ b, printL c = b ++ [10] := by
  rcases List.eq_nil_or_concat c.rules with e | ⟨l, r, e⟩
  · exact ⟨hdL c, by rw [printL, hdL_is, e]; simp [rulesL]⟩
  · refine ⟨headL c ++ (rulesL l ++ rlL r), ?_⟩
    have hr := rlL_is (h r (by rw [e]; simp))
    rw [printL, e]
    simp [rulesL, hr]
theorem read_hd (c : ConfD) : readO (hdL c) = none := by
  rw [readO, hdL, cutL_at 32 sourceL _ (by decide)]
  simp only [if_true]
  cases numW _ with
  | none => rfl
  | some n => rfl
theorem read_rl (r : RuleD) : readO (rlL r) = none := by
  have key : ∀ (w x : List UInt8), (32 : UInt8) ∉ w → (∀ n, readW w n = none) → readO (w ++ 32 :: x) = none := fun w x hw hr => by
    rw [readO, cutL_at 32 w _ hw]
    simp only [if_true]
    cases numW x with
    | none => rfl
    | some n => exact hr n
  unfold rlL
  split
  · exact key _ _ (by decide) (fun n => rfl)
  split
  · exact key _ _ (by decide) (fun n => rfl)
  · exact key _ _ (by decide) (fun n => rfl)
theorem read_lines (c : ConfD) : ∀ s ∈ linesOf c, readO s = none := fun s hs => by
  rw [linesOf, List.mem_cons] at hs
  rcases hs with rfl | hs
  · exact read_hd c
  · obtain ⟨r, _, rfl⟩ := List.mem_map.1 hs
    exact read_rl r
theorem chL_is (c : ChoiceD) : ∃ w, chL c = w ++ 32 :: itoaL c.n ∧ (32 : UInt8) ∉ w ∧ readW w c.n = some c ∧ ruleW w [c.n] = none ∧ w.length = 4 := by
  obtain ⟨t, n⟩ := c
  cases t
  · exact ⟨pollL, rfl, by decide, rfl, rfl, rfl⟩
  · exact ⟨tickL, rfl, by decide, rfl, rfl, rfl⟩
theorem read_chL {c : ChoiceD} (h : I64 c.n) : readO (chL c) = some c := by
  obtain ⟨w, hw, h1, h2, _⟩ := chL_is c
  rw [hw, readO, cutL_at 32 w _ h1]
  simp only [if_true]
  rw [numW_itoaL h]; exact h2
theorem rule_chL {c : ChoiceD} (h : I64 c.n) : ruleO (chL c) = none := by
  obtain ⟨w, hw, h1, _, h2, _⟩ := chL_is c
  have hs : numsO [itoaL c.n] = some [c.n] := numsO_itoaL [c.n] (by simpa using h)
  rw [hw, ruleO, splitL_join 32 w _ h1, splitL_last 32 _ (itoaL_no (by decide))]
  simp only
  rw [hs]; exact h2
theorem parse_chL {c : ConfD} (hc : c.ok) {ch : ChoiceD} (h : I64 ch.n) : parseO [hdL c, chL ch] = (zeroD, 2) := by
  rw [parseO, headO_hd hc]
  simp only
  rw [rulesO, rule_chL h]; rfl
theorem chL_len {c : ChoiceD} (h : I64 c.n) : (chL c).length ≤ 30 := by
  obtain ⟨w, hw, _, _, _, hl⟩ := chL_is c
  have := itoaL_len h
  rw [hw]; simp only [List.length_append, List.length_cons]; omega
def chCells (l : List ChoiceD) : List Value := l.flatMap ChoiceD.cells
theorem chCells_length (l : List ChoiceD) : (chCells l).length = l.length * 2 := by
  induction l with
  | nil => rfl
  | cons r l ih => simp [chCells, ChoiceD.cells] at ih ⊢; omega
theorem chCells_get (l : List ChoiceD) (i : Nat) (r : ChoiceD) (hr : l[i]? = some r) (j : Nat) (v : Value) (hv : r.cells[j]? = some v) : (chCells l)[i * 2 + j]? = some v := by
  induction l generalizing i with
  | nil => simp at hr
  | cons x l ih =>
    have hlen : x.cells.length = 2 := rfl
    have hj : j < 2 := by have := (List.getElem?_eq_some_iff.1 hv).1; simpa [ChoiceD.cells] using this
    cases i with
    | zero =>
      simp at hr; subst hr
      simp only [chCells, List.flatMap_cons, Nat.zero_mul, Nat.zero_add]
      rw [List.getElem?_append_left (by omega)]; exact hv
    | succ i =>
      simp only [chCells, List.flatMap_cons] at ih ⊢
      rw [List.getElem?_append_right (by omega), hlen, show (i + 1) * 2 + j - 2 = i * 2 + j from by omega]
      exact ih i (by simpa using hr)
theorem chk_zero : chkL zeroD = 6 := by decide +kernel
theorem chL_tick3 : chL ⟨true, 3⟩ = [116, 105, 99, 107, 32, 51] := by decide +kernel
set_option maxHeartbeats 3200000
set_option maxRecDepth 20000
theorem wholeWords_spec (v u : Value) (c : ConfD) (chs : List ChoiceD) (hc : c.ok) (hch : ∀ x ∈ chs, I64 x.n) (hn : c.rules.length ≤ 9223372036854775807) (hm : chs.length ≤ 9223372036854775807) : Spec Tryd.prog 9 #[c.val v, u] (fun W p => Env W p ∧ Rd v c.rules.length (ruleCells c.rules) W p ∧ Rd u chs.length (chCells chs) W p) [] fun r L => r = .bool true ∧ L = [] := by
  refine Spec.go (vs := [_, _]) (hT := tyOk) (hm := mixed0) Tryd.func9 rfl Tryd.ntmps9 rfl ?_
  rintro W p ⟨hE, rd, rc⟩
  obtain ⟨a, ca, rfl⟩ := rd.is
  obtain ⟨b, cb, rfl⟩ := rc.is
  refine Good.on ?_
  refine Good.box (us := c.cells _) (fun g => ?_)
  refine Good.on ?_
  refine Good.build ?_
  refine Good.on ?_
  refine Good.callR (cfgCheck_spec (.slice none 0 0) zeroD (by decide)) ck47 (fun w h => Rd.nil (rdNil w)) ?_
  rintro r L ⟨rfl, rfl⟩
  rw [chk_zero]
  refine Good.on ?_
  (refine Good.partB (fun h => ?_) (fun h => ?_); exact absurd h (by decide))
  refine Good.on ?_
  refine Good.call0 (tick_spec 3) ck49 ?_
  rintro r L ⟨rfl, rfl⟩
  refine Good.on ?_
  refine Good.callK [] (chLine_spec ⟨true, 3⟩ ⟨by decide, by decide⟩) stays_env hE ck48 ?_
  rintro r L ⟨rfl, rfl⟩
  rw [chL_tick3]
  refine Good.on ?_
  refine Good.ifB (fun h => ?_) (fun h => ?_) <;> refine Good.on ?_
  · simp at h
  refine Good.load 0 (v := .slice a c.rules.length ca) ?_
  refine Good.on ?_
  refine Good.partD (fun h50 => ?_) (fun h50 => ?_) <;> refine Good.on ?_
  · refine Good.ret1 Tryd.results9 (Res.tmp rfl) ⟨rfl, rfl⟩ (fun _ h => h.clear)
  refine Good.ifD (fun h100 => ?_) (fun h100 => ?_) <;> refine Good.on ?_
  · refine Good.ret1 Tryd.results9 (Res.tmp rfl) ⟨rfl, rfl⟩ (fun _ h => h.clear)
  refine Good.load 0 (v := .slice a c.rules.length ca) ?_
  refine Good.on ?_
  refine Good.loop (ι := Nat) (fun i => [(1, .v (.slice b chs.length cb)), (2, .v (.pointer (some ⟨g, 0, none⟩))), (39, .v (.slice a c.rules.length ca)), (40, .v (.int .i64 c.rules.length)), (41, .v (.int .i64 (i : Int)))]) (fun _ => [HP.row g (c.cells (.slice a c.rules.length ca)) 24])
    (fun i => i ≤ c.rules.length ∧ ∀ r ∈ c.rules.take i, onlyB r = true) (fun i => c.rules.length - i) 0 ⟨by simp, by simp⟩ ⟨rfl, rfl, rfl, rfl, rfl, trivial⟩ (fun _ h => h) ?_
  rintro i ⟨hi, hon⟩
  refine Good.on ?_
  refine Good.ifD (fun h => ?_) (fun h => ?_) <;> refine Good.on ?_
  · have hi' : i < c.rules.length := by omega
    have hri : c.rules[i]? = some c.rules[i] := List.getElem?_eq_getElem hi'
    obtain ⟨g0, off, rfl, hcell⟩ := rd.pos (by rw [ruleCells_length]; omega)
    refine Good.val (Yv.indexAddr rfl rfl rfl rfl rfl rfl (by omega) (by omega)) ?_
    refine Good.on ?_
    refine Good.loadRd c.rules[i].cells (fun w h j v hj => ?_) ?_
    · have := hcell _ w h _ _ (ruleCells_get c.rules i _ hri j v hj)
      rw [← Nat.add_assoc] at this; exact this
    refine Good.on ?_
    refine Good.alloc (fun g5 => ?_)
    refine Good.on ?_
    refine Good.store 0 ?_
    refine Good.on ?_
    refine Good.loadRow 0 ?_
    refine Good.on ?_
    refine Good.call0 (only_spec c.rules[i]) ck13 ?_
    rintro v L ⟨rfl, rfl⟩
    refine Good.on ?_
    refine Good.ifB (fun h2 => ?_) (fun h2 => ?_) <;> refine Good.on ?_
    · refine Good.ret1 Tryd.results9 (Res.tmp rfl) ⟨rfl, rfl⟩ (fun _ h => h.clear)
    have h2 : onlyB c.rules[i] = true := by simpa using h2
    refine Good.again (i + 1) ⟨⟨by omega, ?_⟩, by omega⟩ ⟨rfl, rfl, rfl, rfl, ?_, trivial⟩ (fun w h => h.tail)
    · intro r hr
      rw [List.take_succ_eq_append_getElem hi', List.mem_append] at hr
      rcases hr with hr | hr
      · exact hon r hr
      · simp at hr; subst hr; exact h2
    · show some (Value.int .i64 _) = _
      rw [w64 _ (by omega)]; rfl
  have hi' : i = c.rules.length := by omega
  subst hi'
  rw [List.take_length] at hon
  obtain ⟨bb, hbb⟩ := print_ends c hon
  have hpl : (printL c).length ≤ 100000 := by
    have := headL_len hc
    have := rulesL_len _ hc.rules
    rw [printL, List.length_append]; omega
  have hbl : bb.length + 1 ≤ 100000 := by rw [hbb] at hpl; simpa using hpl
  have hsp : splitL 10 bb = linesOf c := by
    have h1 := split_print c hon
    rw [hbb, splitL_snoc] at h1
    exact List.append_cancel_right h1
  have hll := linesOf_len c
  have hmem : ∀ s ∈ linesOf c, s.length ≤ 100000000 := fun s hs => by
    have := splitL_mem 10 bb s (by rw [hsp]; exact hs)
    omega
  refine Good.loadRow 0 ?_
  refine Good.on ?_
  refine Good.callK [] (cfgPrint_spec _ c hc (by omega)) (stays_env.and (stays_rd _ _ _)) ⟨hE, rd⟩ ck14 ?_
  rintro r L ⟨rfl, rfl⟩
  rw [hbb]
  refine Good.on ?_
  refine Good.callP [] (trim_spec bb 10 (by omega)) ck50 ?_
  rintro r L ⟨rfl, rfl⟩
  refine Good.on ?_
  refine Good.callP [] (split_spec bb 10 (by omega)) ck16 ?_
  rintro v L rfl
  rw [hsp]
  refine Good.know (fun w' h => h.slcIs (m := (linesOf c).length) 0 rfl (by decide) (by rw [strC_length])) ?_
  rintro ⟨a1, c1, rfl, hc1, hg⟩
  obtain ⟨g1, rfl⟩ := hg (by simp [strC, linesOf])
  refine Good.on ?_
  refine Good.callR (parse_spec (some ⟨g1, 0, none⟩) c1 (linesOf c) (by omega) (by omega) hmem) ck17 (fun w h => ⟨stays_env.at hE h, Rd.nil (h.slcRd 0 rfl (by decide) (by rw [strC_length]))⟩) ?_
  rintro r L hA
  unfold parseA at hA
  rw [parse_print c hc hon] at hA
  obtain ⟨v, rfl, rfl⟩ := hA
  refine Good.know (fun w' h => h.slcIs (m := c.rules.length) 0 rfl (by decide) (ruleCells_length _)) ?_
  rintro ⟨a2, c2, rfl, hc2, _⟩
  refine Good.on ?_
  refine Good.alloc (us := zeroD.cells (.slice none 0 0)) (fun g8 => ?_)
  refine Good.on ?_
  refine Good.store 0 ?_
  refine Good.on ?_
  refine Good.partB (fun h => ?_) (fun h => ?_)
  · simp at h
  refine Good.on ?_
  refine Good.loadRow 0 ?_
  refine Good.on ?_
  refine Good.loadRow 3 ?_
  refine Good.on ?_
  refine Good.callR (same19_spec (.slice a2 c.rules.length c2) (.slice a c.rules.length ca) c c (by omega) (by omega)) ck18 (fun w h => ⟨Rd.nil (h.slcRd 1 rfl (by decide) (ruleCells_length _)), (stays_rd _ _ _).at rd h⟩) ?_
  rintro r L ⟨rfl, rfl⟩
  rw [decide_eq_true (rfl : c = c)]
  refine Good.on ?_
  (refine Good.partB (fun h => ?_) (fun h => ?_); exact absurd h (by decide))
  refine Good.on ?_
  refine Good.load 3 (v := .slice a c.rules.length ca) ?_
  refine Good.on ?_
  refine Good.ifB (fun h => ?_) (fun h => ?_) <;> refine Good.on ?_
  · rw [w64 _ (by omega), hll] at h
    simp at h
  refine Good.loop (ι := Nat) (fun i => [(1, .v (.slice b chs.length cb)), (7, .v (.slice (some ⟨g1, 0, none⟩) (linesOf c).length c1)), (75, .v (.slice (some ⟨g1, 0, none⟩) (linesOf c).length c1)), (76, .v (.int .i64 (linesOf c).length)), (77, .v (.int .i64 (i : Int)))]) (fun _ => [slc 9 1 (.slice (some ⟨g1, 0, none⟩) (linesOf c).length c1) (strC (linesOf c))])
    (fun i => i ≤ (linesOf c).length) (fun i => (linesOf c).length - i) 0 (by simp) ⟨rfl, rfl, rfl, rfl, rfl, trivial⟩ (fun _ h => h.tail.tail.first) ?_
  rintro i hi
  refine Good.on ?_
  refine Good.ifD (fun h => ?_) (fun h => ?_) <;> refine Good.on ?_
  · have hi' : i < (linesOf c).length := by omega
    refine Good.val (Yv.indexAddr rfl rfl rfl rfl rfl rfl (by omega) (by omega)) ?_
    rw [show ((i : Int)).toNat * ti9.size = i from by simp [ti9], Nat.zero_add]
    refine Good.on ?_
    refine Good.loadC (ad := ⟨g1, i, none⟩) (v := .string (str (linesOf c)[i])) (fun w' h => h.slcCell (j := i) 0 rfl rfl (strC_get _ i hi')) ?_
    refine Good.on ?_
    refine Good.callK [] (chRead_spec (linesOf c)[i] (by have := hmem _ (List.getElem_mem hi'); omega)) stays_env hE ck51 ?_
    rintro r L ⟨rfl, rfl⟩
    rw [read_lines c _ (List.getElem_mem hi')]
    refine Good.on ?_
    refine Good.alloc (us := (ChoiceD.mk false 0).cells) (fun g12 => ?_)
    refine Good.on ?_
    refine Good.store 0 ?_
    refine Good.on ?_
    (refine Good.ifB (fun h => ?_) (fun h => ?_); exact absurd h (by decide))
    refine Good.on ?_
    refine Good.again (i + 1) ⟨by omega, by omega⟩ ⟨rfl, rfl, rfl, rfl, ?_, trivial⟩ (fun w h => h.tail)
    show some (Value.int .i64 _) = _
    rw [w64 _ (by omega)]; rfl
  refine Good.loop (ι := Nat) (fun i => [(7, .v (.slice (some ⟨g1, 0, none⟩) (linesOf c).length c1)), (88, .v (.slice b chs.length cb)), (89, .v (.int .i64 chs.length)), (90, .v (.int .i64 (i : Int)))]) (fun _ => [slc 9 1 (.slice (some ⟨g1, 0, none⟩) (linesOf c).length c1) (strC (linesOf c))])
    (fun i => i ≤ chs.length) (fun i => chs.length - i) 0 (by simp) ⟨rfl, rfl, rfl, rfl, trivial⟩ (fun _ h => h) ?_
  rintro i hi
  refine Good.on ?_
  refine Good.ifD (fun h => ?_) (fun h => ?_) <;> refine Good.on ?_
  rotate_left
  · refine Good.ret1 Tryd.results9 (Res.tmp rfl) ⟨rfl, rfl⟩ (fun _ h => h.clear)
  have hi' : i < chs.length := by omega
  have hri : chs[i]? = some chs[i] := List.getElem?_eq_getElem hi'
  have hx64 := hch _ (List.getElem_mem hi')
  obtain ⟨x, hx⟩ : ∃ x, chs[i] = x := ⟨_, rfl⟩
  rw [hx] at hri hx64
  obtain ⟨g0, off, rfl, hcell⟩ := rc.pos (by rw [chCells_length]; omega)
  refine Good.val (Yv.indexAddr rfl rfl rfl rfl rfl rfl (by omega) (by omega)) ?_
  refine Good.on ?_
  refine Good.loadRd x.cells (fun w h j v hj => ?_) ?_
  · have := hcell _ w h _ _ (chCells_get chs i _ hri j v hj)
    rw [← Nat.add_assoc] at this; exact this
  refine Good.on ?_
  refine Good.alloc (us := (ChoiceD.mk false 0).cells) (fun g15 => ?_)
  refine Good.on ?_
  refine Good.store 0 ?_
  refine Good.on ?_
  refine Good.loadRow 0 ?_
  refine Good.on ?_
  refine Good.callK [] (chLine_spec x hx64) stays_env hE ck48 ?_
  rintro r L ⟨rfl, rfl⟩
  have hxl := chL_len hx64
  refine Good.on ?_
  refine Good.callK [] (chRead_spec (chL x) (by omega)) stays_env hE ck51 ?_
  rintro r L ⟨rfl, rfl⟩
  rw [read_chL hx64]
  refine Good.on ?_
  refine Good.alloc (us := (ChoiceD.mk false 0).cells) (fun g17 => ?_)
  refine Good.on ?_
  refine Good.store 0 ?_
  refine Good.on ?_
  refine Good.val (Yv.indexAddr rfl rfl rfl rfl rfl rfl (by omega) (by omega)) ?_
  refine Good.on ?_
  refine Good.loadC (v := .string (str (hdL c))) (fun w' h => h.slcCell (j := 0) 2 rfl rfl rfl) ?_
  refine Good.on ?_
  refine Good.op rfl (OpW.lit rfl rfl rfl fun g18 => ?_)
  refine Good.mem (l' := [slc 9 1 (.slice (some ⟨g18, 0, none⟩) 2 2) (strC [hdL c, chL x]), HP.row g17 x.cells 95, HP.row g15 x.cells 95, slc 9 1 (.slice (some ⟨g1, 0, none⟩) (linesOf c).length c1) (strC (linesOf c))]) (fun w h => Sat.rowSlc rfl (by unfold maxLen; omega) h) ?_
  refine Good.on ?_
  have hhl : (hdL c).length ≤ 100000000 := hmem _ (by simp [linesOf])
  refine Good.callR (parse_spec (some ⟨g18, 0, none⟩) 2 [hdL c, chL x] (by simp) (by simp) (by simp; exact ⟨hhl, by omega⟩)) ck17 (fun w h => ⟨stays_env.at hE h, Rd.nil (h.slcRd 0 rfl (by decide) rfl)⟩) ?_
  rintro r L hA
  unfold parseA at hA
  rw [parse_chL hc hx64] at hA
  obtain ⟨v, rfl, rfl⟩ := hA
  refine Good.know (fun w' h => h.slcIs (m := 0) 0 rfl (by decide) (by rfl)) ?_
  rintro ⟨a3, c3, rfl, hc3, _⟩
  refine Good.on ?_
  refine Good.alloc (us := zeroD.cells (.slice none 0 0)) (fun g19 => ?_)
  refine Good.on ?_
  refine Good.store 0 ?_
  refine Good.on ?_
  (refine Good.partB (fun h => ?_) (fun h => ?_); exact absurd h (by decide))
  refine Good.on ?_
  refine Good.loadRow 3 ?_
  refine Good.on ?_
  refine Good.loadRow 4 ?_
  refine Good.on ?_
  refine Good.val (Yv.chNe (a := x) (b := x) rfl rfl rfl) ?_
  rw [decide_eq_true (rfl : x = x)]
  refine Good.on ?_
  (refine Good.partB (fun h => ?_) (fun h => ?_); exact absurd h (by decide))
  refine Good.on ?_
  refine Good.ifB (fun h => ?_) (fun h => ?_) <;> refine Good.on ?_
  · simp at h
  refine Good.again (i + 1) ⟨by omega, by omega⟩ ⟨rfl, rfl, rfl, ?_, trivial⟩ (fun w h => h.tail.tail.tail.tail.tail)
  show some (Value.int .i64 _) = _
  rw [w64 _ (by omega)]; rfl
end Go.Proofs.YtnfcbpgckomdfaaDoor
