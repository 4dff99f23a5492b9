/- Proved: tidewaitertop.WholeWords returns true at every input, and its arguments read as they did. No condition but that Go's own tables hold what Go's text lays in them (the card ties that). -/
import Derived.Test.YtnfcbpgckomdfaaDoorTopWords
import Derived.Test.YtnfcbpgckomdfaaDoorOpen
import Derived.Test.YtnfcbpgckomdfaaDoorEnvRow
import Derived.Test.YtnfcbpgckomdfaaDoorCards
namespace Go.Proofs.YtnfcbpgckomdfaaDoor
open Go.ChangeShapes Go.WideShapes Go.ChangeAt Go.RowKit
open Go.ChangeMaps (open_string)
theorem chCells_div (l : List ChoiceD) (j : Nat) (u : Value) (h : (chCells l)[j]? = some u) : ∃ r, l[j / 2]? = some r ∧ r.cells[j % 2]? = some u := by
  have hj := (List.getElem?_eq_some_iff.1 h).1
  rw [chCells_length] at hj
  have hr : l[j / 2]? = some (l[j / 2]'(by omega)) := List.getElem?_eq_getElem (by omega)
  have hc : (l[j / 2]'(by omega)).cells[j % 2]? = some ((l[j / 2]'(by omega)).cells[j % 2]'(by simp [ChoiceD.cells]; omega)) := List.getElem?_eq_getElem _
  have := chCells_get l _ _ hr _ _ hc
  rw [show j / 2 * 2 + j % 2 = j from by omega, h] at this
  exact ⟨_, hr, by rw [hc]; exact this.symm⟩
theorem cellsCh : Tryd.prog.cellsOf 95 = 2 := by kernel_rfl
theorem cellsBool : Tryd.prog.cellsOf 4 = 1 := by kernel_rfl
section
variable {H : Type} {enc : TypeId × Value → H} {w : World} {base : Nat} {spare : Nat → Bool} {held : Bool}
theorem open_choice {fuel : Nat} {cs : List Value} {x : DataW H × List MemPlace} (h : DataW.trod enc Tryd.prog w base spare held fuel 95 cs = some x) : ∃ r : ChoiceD, I64 r.n ∧ cs = r.cells := by
  obtain ⟨y0, y1, n, _, hl, f0, f1⟩ := trod_struct2 tk95.under h
  rw [cellsCh] at hl
  simp only [cellsInt, cellsBool] at f0 f1
  obtain ⟨k0, e0, _⟩ := DataW.trod_bool tk4.under f0
  obtain ⟨k1, e1, _, w1⟩ := DataW.trod_int (k := .i64) tk3.under f1
  obtain ⟨a, b, rfl⟩ : ∃ a b, cs = [a, b] := by
    match cs, hl with
    | [a, b], _ => exact ⟨a, b, rfl⟩
  simp at e0 e1
  subst e0 e1
  exact ⟨⟨k0, k1⟩, bounds_i64 w1, rfl⟩
theorem open_choices {fuel : Nat} {v : Value} {x : DataW H × List MemPlace} (h : DataW.trod enc Tryd.prog w base spare held fuel 91 [v] = some x) :
    ∃ l : List ChoiceD, (∀ r ∈ l, I64 r.n) ∧ l.length ≤ maxLen ∧ rdAt w v l.length (chCells l) := by
  rcases Go.Deep.open_slice tk91.under h with ⟨hv, _⟩ | ⟨a, len, cap, m, n, D, Pl, hv, _, hl, hm, hme, _, hel⟩
  · cases hv
    exact ⟨[], by simp, by simp, none, 0, rfl, fun j u hj => by simp [chCells] at hj⟩
  · cases hv
    have hlm : len ≤ m := by rw [hme]; split <;> omega
    have key : ∀ i, i < len → ∃ r : ChoiceD, I64 r.n ∧ ∀ k u, r.cells[k]? = some u → w.cell? (a.add (i * 2 + k)) = some u := fun i hi => by
      obtain ⟨cs, hc, ht⟩ := hel i (by omega)
      obtain ⟨r, hr, rfl⟩ := open_choice ht
      rw [cellsCh] at hc
      refine ⟨r, hr, fun k u hk => ?_⟩
      have hk3 : k < 2 := by have := (List.getElem?_eq_some_iff.1 hk).1; simpa [ChoiceD.cells] using this
      have := (World.cells?_some hc)
      have h3 := this.2.2 k hk3
      rw [Go.Deep.add_add] at h3
      rw [h3]; exact hk
    have hf : ∃ f : Nat → ChoiceD, ∀ i, i < len → I64 (f i).n ∧ ∀ k u, (f i).cells[k]? = some u → w.cell? (a.add (i * 2 + k)) = some u := by
      haveI : Inhabited ChoiceD := ⟨⟨false, 0⟩⟩
      exact Go.Deep.choose_lt key
    obtain ⟨f, hf⟩ := hf
    refine ⟨(List.range len).map f, fun r hr => ?_, by simp; omega, some a, cap, by simp, fun j u hj => ?_⟩
    · obtain ⟨i, hi, rfl⟩ := List.mem_map.1 hr
      exact (hf i (List.mem_range.1 hi)).1
    · obtain ⟨r, hr, hu⟩ := chCells_div _ _ _ hj
      obtain ⟨hlt, he⟩ := List.getElem?_eq_some_iff.1 hr
      simp only [List.length_map, List.length_range] at hlt
      simp only [List.getElem_map, List.getElem_range] at he
      subst he
      have hc := (hf _ hlt).2 _ _ hu
      rw [show j / 2 * 2 + j % 2 = j from by omega] at hc
      have h0 := (hf 0 (by omega)).2 0 _ rfl
      obtain ⟨g, off, spot⟩ := a
      have hs : spot = none := by
        cases spot with
        | none => rfl
        | some s =>
          simp only [World.cell?, Addr.add] at h0
          split at h0 <;> simp at h0
      subst hs
      refine ⟨g, off, rfl, ?_⟩
      rw [addr_add] at hc; exact hc
end
set_option maxRecDepth 100000 in
theorem wholeWords_lifted (os : Os) (started : os.Started) (H : Type) (enc : TypeId × Value → H) :
    ReturnsInHanded {} Tryd.checked os 9 .any (fun w args => (Rows.wholeWordsSpec.pre enc Tryd.prog Tryd.f9 [] false w args ∧ laidMetH Tryd.prog Rows.wholeWordsRow.laid w) ∧ sizedMet enc Tryd.prog Tryd.f9 (OpenSpec.ofChange Rows.wholeWordsSpec) false w args)
      (Rows.wholeWordsSpec.post enc Tryd.prog Tryd.f9 false true false false) := by
  refine returnsInHanded_of_change_and (C := Tryd.checked) (X := fun w _ => laidMetH Tryd.prog Rows.wholeWordsRow.laid w) (fun _ _ _ hh h => h.of_heap hh) own started (by kernel_rfl) Tryd.func9
    (ChangeSpec.witness_shaped (enc := enc) (C := Tryd.checked) (os := os) (X := fun w _ => laidMetH Tryd.prog Rows.wholeWordsRow.laid w) false (World.laidAll Tryd.prog os Rows.wholeWordsRow.laid) #[.agg #[.slice none 0 0, .int .i64 0, .int .i64 0], .slice none 0 0] 8 (World.laidAll_os _ _ _)
      (World.shaped_of_ZipB (by kernel_rfl) (by kernel_rfl)) (by kernel_rfl) (by kernel_rfl) (by kernel_rfl)
      (by rw [MakeChecks.laidMetH_plain _ _ _ (by kernel_rfl)]; exact laidMet_laidAll _ (by kernel_rfl) (by kernel_rfl))) ?_
  intro W base args ds gs before hval0 hW _ _ hL _
  have hval : ∀ (j : Nat) t v, Tryd.f9.params[j]? = some t → args[j]? = some v → Value.okWide Tryd.prog W .any base t v := hval0
  have hW' := hW
  obtain ⟨p, q, hA0, hV, rfl, hfz, hnd⟩ := hW
  have hA : DataW.TrodAll enc Tryd.prog W 0 (fun _ => true) true Tryd.f9.params.toList args.toList ds p := hA0
  rw [Tryd.params9] at hA hval
  obtain ⟨v0, vs0, d0, ds0, p0, q0, hargs, rfl, rfl, h0, r0⟩ := trodAll_cons hA
  obtain ⟨v1, vs1, d1, ds1, p1, q1, rfl, rfl, rfl, h1, r1⟩ := trodAll_cons r0
  obtain ⟨rfl, rfl, rfl⟩ := trodAll_nil r1
  obtain rfl : args = #[v0, v1] := by cases args; simp_all
  obtain ⟨rfl, rfl⟩ := trodVars_none hV
  have h0k := h0
  have h1k := h1
  obtain ⟨cs, rfl, hcs⟩ := okWide_struct tk24.under (hval 0 24 v0 rfl rfl)
  obtain ⟨a1, len1, cap1, rfl⟩ := okWide_slice tk91.under (hval 1 91 v1 rfl rfl)
  obtain ⟨fuel, hf⟩ := h0
  obtain ⟨fuel1, hf1⟩ := h1
  obtain ⟨chs, hch, hlen1, hrd1⟩ := open_choices hf1
  obtain ⟨v, c, hc, hlen, hcc, hrd⟩ := open_conf hf
  have hval' : Value.agg cs = c.val v := by
    unfold ConfD.val; congr 1
    rw [← hcc]; rfl
  simp only [List.append_nil] at hW'
  rw [MakeChecks.laidMetH_plain _ _ _ (by kernel_rfl)] at hL
  have hE : Env W Hl.nil := env_of_reads (Lib.laidMet.reads hL (.tail _ (.head _))) (Lib.laidMet.reads hL (.tail _ (.tail _ (.head _)))) (Lib.laidMet.reads hL (.tail _ (.tail _ (.tail _ (.head _))))) (Lib.laidMet.reads hL (.tail _ (.tail _ (.tail _ (.tail _ (.head _)))))) (Lib.laidMet.reads hL (.tail _ (.tail _ (.tail _ (.tail _ (.tail _ (.head _))))))) (Lib.laidMet.reads hL (.tail _ (.tail _ (.tail _ (.tail _ (.tail _ (.tail _ (.head _))))))))
  have hcall := wholeWords_spec v (.slice a1 len1 cap1) c chs hc hch (by unfold maxLen at hlen; omega) (by unfold maxLen at hlen1; omega) W Hl.nil rfl (Hl.nil_le W) ⟨hE, ⟨hrd, fun _ _ _ _ _ => rfl⟩, ⟨hrd1, fun _ _ _ _ _ => rfl⟩⟩
  rw [← hval'] at hcall
  refine hcall.mono fun e W' ⟨r, L, he, ⟨hr, hL'⟩, hsat⟩ => ?_
  subst hr he
  have hb : Below W.heap.size W W' := hsat.below
  have hlt : ∀ x ∈ p0, x.block < W.heap.size := fun x hx => hW'.lt x (by simp [hx])
  have hlt1 : ∀ x ∈ p1, x.block < W.heap.size := fun x hx => hW'.lt x (by simp [hx])
  refine ⟨_, rfl, _, _, _, [], p0 ++ (p1 ++ []), [], by simpa using hW', ?_, ?_, ?_, ?_, fun h => by cases h⟩
  · exact trodAll_mk1 (shut_bool tk4.under true)
  · exact trodAll_cons_mk (Below.trod laidOut (by kernel_rfl) (of_decide_eq_true (by kernel_rfl)) h0k hb hlt) (trodAll_cons_mk (Below.trod laidOut (by kernel_rfl) (of_decide_eq_true (by kernel_rfl)) h1k hb hlt1) trodAll_mk0)
  · rfl
  · exact hb.frame _
theorem wholeWords_said : Rows.WholeWordsSaid :=
  OpenClaim.holds_of_wide 9 Tryd.f9 rfl rfl rfl rfl rfl rfl rfl ⟨rfl, rfl, rfl, rfl, rfl⟩ rfl rfl rfl rfl rfl (by kernel_rfl) Tryd.func9 (by kernel_rfl)
    (of_decide_eq_true (by kernel_rfl)) (by unfold Func.isWrapper; first | (rw [if_pos (by decide +kernel)]; kernel_rfl) | (rw [if_neg (by decide +kernel)]; exact ⟨rfl, rfl⟩))
    (fun os started H enc _ => wholeWords_lifted os started H enc)
theorem wholeWords_plain (f : FuncId) (fn : Func) (hf : Tryd.pinned.checked.prog.funcNamed "tidewaiter/tidewaitertop.WholeWords" = some f) (hfn : Tryd.pinned.checked.prog.funcs[f]? = some fn) :
    true = Tryd.pinned.checked.prog.looks [] ∧ ∀ (j : Nat) t, fn.params[j]? = some t → Tryd.pinned.checked.prog.wantsStandIn t = false := by
  obtain rfl : f = 9 := Option.some.inj ((show Tryd.prog.funcNamed "tidewaiter/tidewaitertop.WholeWords" = some 9 by kernel_rfl).symm.trans hf) |>.symm
  obtain rfl : fn = Tryd.f9 := (Option.some.inj (Tryd.func9.symm.trans hfn)).symm
  refine ⟨by kernel_rfl, fun j t ht => ?_⟩
  rw [Tryd.params9] at ht
  have hm : t ∈ [24, 91] := by simpa using Array.mem_of_getElem? ht
  have hall : ([24, 91].all fun u => !Tryd.prog.wantsStandIn u) = true := by kernel_rfl
  exact (show Tryd.prog.wantsStandIn t = false by simpa using List.all_eq_true.1 hall t hm)
theorem wholeWords_holds : Rows.WholeWordsCardSaid :=
  Claim7.holds_tied_plain_at .later [] _ _ _ _ wholeWords_said (fun _ h => by cases h) (by kernel_rfl) (fun _ h => by cases h) wholeWords_row_tie rfl ⟨rfl, rfl⟩ (by kernel_rfl) rfl wholeWords_plain (by kernel_rfl)
end Go.Proofs.YtnfcbpgckomdfaaDoor
