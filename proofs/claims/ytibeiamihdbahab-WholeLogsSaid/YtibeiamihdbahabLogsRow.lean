/- Proved: tidewaitertop.WholeLogs returns true at every input, and its arguments read as they did. No condition. -/
import Derived.Test.YtibeiamihdbahabTopLogs
import Derived.Test.YtibeiamihdbahabRows
import Derived.ProofKit
import Derived.Deep.Slices
import Derived.Deep.Strs
import Derived.Below
import Derived.OpenShut
namespace Go.Proofs.Ytibeiamihdbahab
open Go.ChangeShapes Go.WideShapes Go.ChangeAt Go.RowKit
open Go.ChangeMaps (open_string)
theorem own : ownKnob Try.prog.godebug = none := by kernel_rfl
theorem laidOut : laidOutB Try.prog = true := by kernel_rfl
theorem recCells_div (l : List Rec) (j : Nat) (u : Value) (h : (recCells l)[j]? = some u) : ∃ r, l[j / 3]? = some r ∧ r.cells[j % 3]? = some u := by
  have hj := (List.getElem?_eq_some_iff.1 h).1
  rw [recCells_length] at hj
  have hr : l[j / 3]? = some (l[j / 3]'(by omega)) := List.getElem?_eq_getElem (by omega)
  have hc : (l[j / 3]'(by omega)).cells[j % 3]? = some ((l[j / 3]'(by omega)).cells[j % 3]'(by simp [Rec.cells]; omega)) := List.getElem?_eq_getElem _
  have := recCells_get l _ _ hr _ _ hc
  rw [show j / 3 * 3 + j % 3 = j from by omega, h] at this
  exact ⟨_, hr, by rw [hc]; exact this.symm⟩
theorem cellsRec : Try.prog.cellsOf 27 = 3 := by kernel_rfl
theorem cellsInt : Try.prog.cellsOf 3 = 1 := by kernel_rfl
theorem cellsStr : Try.prog.cellsOf 9 = 1 := by kernel_rfl
theorem recUnder : Try.prog.underlying 27 = some (.struct #[{ name := "Kind", type := 3, offset := 0, embedded := false, tag := "", pkgPath := "", byteOffset := 0 }, { name := "Time", type := 3, offset := 1, embedded := false, tag := "", pkgPath := "", byteOffset := 8 }, { name := "Text", type := 9, offset := 2, embedded := false, tag := "", pkgPath := "", byteOffset := 16 }]) := tk27.under
section
variable {H : Type} {enc : TypeId × Value → H} {w : World} {base : Nat} {spare : Nat → Bool} {held : Bool}
/-- A record that is read. -/
theorem open_rec {fuel : Nat} {cs : List Value} {x : DataW H × List MemPlace} (h : DataW.trod enc Try.prog w base spare held fuel 27 cs = some x) : ∃ r : Rec, r.ok ∧ cs = r.cells := by
  obtain ⟨y0, y1, y2, n, _, hl, h0, h1, h2⟩ := Go.Deep.trod_struct3 recUnder h
  rw [cellsRec] at hl
  simp only [cellsInt, cellsStr] at h0 h1 h2
  obtain ⟨k, e0, _, w0⟩ := DataW.trod_int (k := .i64) tk3.under h0
  obtain ⟨t, e1, _, w1⟩ := DataW.trod_int (k := .i64) tk3.under h1
  obtain ⟨s, e2, _, _⟩ := DataW.trod_string tk9.under h2
  obtain ⟨a, b, c, rfl⟩ : ∃ a b c, cs = [a, b, c] := by
    match cs, hl with
    | [a, b, c], _ => exact ⟨a, b, c, rfl⟩
  simp at e0 e1 e2
  subst e0 e1 e2
  exact ⟨⟨k, t, s.data.toList⟩, ⟨bounds_i64 w0, bounds_i64 w1⟩, rfl⟩
theorem open_recs {fuel : Nat} {v : Value} {x : DataW H × List MemPlace} (h : DataW.trod enc Try.prog w base spare held fuel 22 [v] = some x) :
    ∃ l : List Rec, (∀ r ∈ l, r.ok) ∧ l.length ≤ maxLen ∧ rdAt w v l.length (recCells l) := by
  rcases Go.Deep.open_slice tk22.under h with ⟨hv, _⟩ | ⟨a, len, cap, m, n, D, Pl, hv, _, hl, hm, hme, _, hel⟩
  · cases hv
    exact ⟨[], by simp, by simp, none, 0, rfl, fun j u hj => by simp [recCells] at hj⟩
  · cases hv
    have hlm : len ≤ m := by rw [hme]; split <;> omega
    have key : ∀ i, i < len → ∃ r : Rec, r.ok ∧ ∀ k u, r.cells[k]? = some u → w.cell? (a.add (i * 3 + k)) = some u := fun i hi => by
      obtain ⟨cs, hc, ht⟩ := hel i (by omega)
      obtain ⟨r, hr, rfl⟩ := open_rec ht
      rw [cellsRec] at hc
      refine ⟨r, hr, fun k u hk => ?_⟩
      have hk3 : k < 3 := by have := (List.getElem?_eq_some_iff.1 hk).1; simpa [Rec.cells] using this
      have := (World.cells?_some hc)
      have h3 := this.2.2 k hk3
      rw [Go.Deep.add_add] at h3
      rw [h3]; exact hk
    have hf : ∃ f : Nat → Rec, ∀ i, i < len → (f i).ok ∧ ∀ k u, (f i).cells[k]? = some u → w.cell? (a.add (i * 3 + k)) = some u := by
      haveI : Inhabited Rec := ⟨Rec.zero⟩
      exact Go.Deep.choose_lt key
    obtain ⟨f, hf⟩ := hf
    refine ⟨(List.range len).map f, fun r hr => ?_, by simp; omega, some a, cap, by simp, fun j u hj => ?_⟩
    · obtain ⟨i, hi, rfl⟩ := List.mem_map.1 hr
      exact (hf i (List.mem_range.1 hi)).1
    · obtain ⟨r, hr, hu⟩ := recCells_div _ _ _ hj
      obtain ⟨hlt, he⟩ := List.getElem?_eq_some_iff.1 hr
      simp only [List.length_map, List.length_range] at hlt
      simp only [List.getElem_map, List.getElem_range] at he
      subst he
      have hc := (hf _ hlt).2 _ _ hu
      rw [show j / 3 * 3 + j % 3 = j from by omega] at hc
      have h0 := (hf 0 (by omega)).2 0 _ rfl
      obtain ⟨g, off, spot⟩ := a
      have hs : spot = none := by
        cases spot with
        | none => rfl
        | some s =>
          simp only [World.cell?, Addr.add] at h0
          split at h0 <;> simp at h0
      subst hs
      refine ⟨g, off, rfl, ?_⟩
      rw [addr_add] at hc; exact hc
end
theorem Sat.below {W w : World} {l : List HP} (s : Sat W Hl.nil l w) : Below W.heap.size W w := by
  obtain ⟨h, _, _, u⟩ := s
  exact ⟨u.os, u.tape, u.output, u.size, fun k hk => u.old k hk rfl⟩
set_option maxRecDepth 100000 in
theorem wholeLogs_lifted (os : Os) (started : os.Started) (H : Type) (enc : TypeId × Value → H) :
    ReturnsInHanded {} Try.checked os 3 .any (Rows.wholeLogsSpec.pre6 enc Try.prog Try.f3 Rows.wholeLogsRow.domain false) (Rows.wholeLogsSpec.post enc Try.prog Try.f3 false true false false) := by
  refine returnsInHanded_of_change (C := Try.checked) own started (by kernel_rfl) Try.func3
    (ChangeSpec.witness6 (enc := enc) (C := Try.checked) false ⟨#[], #[.slice none 0 0, .string .empty], []⟩ 8 (by kernel_rfl) (by kernel_rfl) (by kernel_rfl) (by kernel_rfl)) ?_
  intro W base args ds gs before hval0 hW hcnd _
  have hval : ∀ (j : Nat) t v, Try.f3.params[j]? = some t → args[j]? = some v → Value.okWide Try.prog W .any base t v := hval0
  have hW' := hW
  obtain ⟨p, q, hA0, hV, rfl, hfz, hnd⟩ := hW
  have hA : DataW.TrodAll enc Try.prog W 0 (fun _ => true) true Try.f3.params.toList args.toList ds p := hA0
  rw [Try.params3] at hA hval
  obtain ⟨v0, v1, d0, d1, p0, p1, rfl, rfl, rfl, h0, h1⟩ := trodAll_two hA
  obtain ⟨rfl, rfl⟩ := trodVars_none hV
  have h0k := h0
  have h1k := h1
  obtain ⟨a0, len, cap, rfl⟩ := okWide_slice tk22.under (hval 0 22 v0 rfl rfl)
  obtain ⟨fuel, hf⟩ := h0
  obtain ⟨l, hok, hlen, hrd⟩ := open_recs hf
  obtain ⟨s, rfl, rfl, rfl, hs⟩ := open_string tk9.under (hval 1 9 v1 rfl rfl) h1
  simp only [List.append_nil] at hW'
  have hcall := wholeLogs_spec (.slice a0 len cap) l s.data.toList hok (by unfold maxLen at hlen; omega) (by show s.size ≤ _; unfold maxLen at hs; omega) W Hl.nil rfl (Hl.nil_le W) ⟨hrd, fun _ _ _ _ _ => rfl⟩
  refine hcall.mono fun e W' ⟨r, L, he, ⟨hr, hL⟩, hsat⟩ => ?_
  subst hr hL he
  have hb : Below W.heap.size W W' := hsat.below
  have hlt : ∀ x ∈ p0, x.block < W.heap.size := fun x hx => by simpa using hW'.lt x (by simpa using hx)
  refine ⟨_, rfl, _, _, _, [], p0 ++ [], [], hW', ?_, ?_, ?_, ?_, fun h => by cases h⟩
  · exact trodAll_mk1 (shut_bool tk4.under true)
  · exact trodAll_mk2 (Below.trod laidOut (by kernel_rfl) (of_decide_eq_true (by kernel_rfl)) h0k hb hlt) (Below.trod laidOut (by kernel_rfl) (of_decide_eq_true (by kernel_rfl)) h1k hb (by simp))
  · rfl
  · exact hb.frame _
theorem wholeLogs_holds : Rows.WholeLogsSaid :=
  OpenClaim.holds_of_wide 3 Try.f3 rfl rfl rfl rfl rfl rfl rfl ⟨rfl, rfl, rfl, rfl, rfl⟩ rfl rfl rfl rfl rfl (by kernel_rfl) Try.func3 (by kernel_rfl)
    (of_decide_eq_true (by kernel_rfl)) (by unfold Func.isWrapper; first | (rw [if_pos (by decide +kernel)]; kernel_rfl) | (rw [if_neg (by decide +kernel)]; exact ⟨rfl, rfl⟩))
    (fun os started H enc _ => wholeLogs_lifted os started H enc)
end Go.Proofs.Ytibeiamihdbahab
