/- Arguments that are configurations, choices. For this seat's rows. -/
import Derived.Test.YtnfcbpgckomdfaaDoorSame
import Derived.Test.YtnfcbpgckomdfaaDoorEnvRow
namespace Go.Proofs.YtnfcbpgckomdfaaDoor
open Go.ChangeShapes Go.WideShapes Go.ChangeAt Go.RowKit
open Go.ChangeMaps (open_string)
theorem ruleCells_div (l : List RuleD) (j : Nat) (u : Value) (h : (ruleCells l)[j]? = some u) : ∃ r, l[j / 5]? = some r ∧ r.cells[j % 5]? = some u := by
  have hj := (List.getElem?_eq_some_iff.1 h).1
  rw [ruleCells_length] at hj
  have hr : l[j / 5]? = some (l[j / 5]'(by omega)) := List.getElem?_eq_getElem (by omega)
  have hc : (l[j / 5]'(by omega)).cells[j % 5]? = some ((l[j / 5]'(by omega)).cells[j % 5]'(by simp [RuleD.cells]; omega)) := List.getElem?_eq_getElem _
  have := ruleCells_get l _ _ hr _ _ hc
  rw [show j / 5 * 5 + j % 5 = j from by omega, h] at this
  exact ⟨_, hr, by rw [hc]; exact this.symm⟩
theorem cellsRule : Tryd.prog.cellsOf 27 = 5 := by kernel_rfl
theorem cellsConf : Tryd.prog.cellsOf 24 = 3 := by kernel_rfl
theorem cellsInt : Tryd.prog.cellsOf 3 = 1 := by kernel_rfl
theorem cellsRules : Tryd.prog.cellsOf 22 = 1 := by kernel_rfl
section
variable {H : Type} {enc : TypeId × Value → H} {w : World} {base : Nat} {spare : Nat → Bool} {held : Bool}
theorem trod_struct5 {P : Program} {t : TypeId} {f0 f1 f2 f3 f4 : Field} {fuel : Nat} {cs : List Value} {x : DataW H × List MemPlace} (ht : P.underlying t = some (.struct #[f0, f1, f2, f3, f4])) (h : DataW.trod enc P w base spare held fuel t cs = some x) :
    ∃ y0 y1 y2 y3 y4 n, cs.length = P.cellsOf t ∧ DataW.trod enc P w base spare held n f0.type ((cs.drop f0.offset).take (P.cellsOf f0.type)) = some y0 ∧
      DataW.trod enc P w base spare held n f1.type ((cs.drop f1.offset).take (P.cellsOf f1.type)) = some y1 ∧ DataW.trod enc P w base spare held n f2.type ((cs.drop f2.offset).take (P.cellsOf f2.type)) = some y2 ∧
      DataW.trod enc P w base spare held n f3.type ((cs.drop f3.offset).take (P.cellsOf f3.type)) = some y3 ∧ DataW.trod enc P w base spare held n f4.type ((cs.drop f4.offset).take (P.cellsOf f4.type)) = some y4 := by
  obtain ⟨xs, n, _, rfl, hl, hlen, hf⟩ := DataW.trod_struct ht h
  match xs, hlen with
  | [y0, y1, y2, y3, y4], _ => exact ⟨y0, y1, y2, y3, y4, n, hl, by simpa using hf 0 f0 rfl, by simpa using hf 1 f1 rfl, by simpa using hf 2 f2 rfl, by simpa using hf 3 f3 rfl, by simpa using hf 4 f4 rfl⟩
/-- A rule that is read. -/
theorem open_rule {fuel : Nat} {cs : List Value} {x : DataW H × List MemPlace} (h : DataW.trod enc Tryd.prog w base spare held fuel 27 cs = some x) : ∃ r : RuleD, r.ok ∧ cs = r.cells := by
  obtain ⟨y0, y1, y2, y3, y4, n, hl, f0, f1, f2, f3, f4⟩ := trod_struct5 tk27.under h
  rw [cellsRule] at hl
  simp only [cellsInt] at f0 f1 f2 f3 f4
  obtain ⟨k0, e0, _, w0⟩ := DataW.trod_int (k := .i64) tk3.under f0
  obtain ⟨k1, e1, _, w1⟩ := DataW.trod_int (k := .i64) tk3.under f1
  obtain ⟨k2, e2, _, w2⟩ := DataW.trod_int (k := .i64) tk3.under f2
  obtain ⟨k3, e3, _, w3⟩ := DataW.trod_int (k := .i64) tk3.under f3
  obtain ⟨k4, e4, _, w4⟩ := DataW.trod_int (k := .i64) tk3.under f4
  obtain ⟨a, b, c, d, e, rfl⟩ : ∃ a b c d e, cs = [a, b, c, d, e] := by
    match cs, hl with
    | [a, b, c, d, e], _ => exact ⟨a, b, c, d, e, rfl⟩
  simp at e0 e1 e2 e3 e4
  subst e0 e1 e2 e3 e4
  exact ⟨⟨k0, k1, k2, k3, k4⟩, ⟨bounds_i64 w0, bounds_i64 w1, bounds_i64 w2, bounds_i64 w3, bounds_i64 w4⟩, rfl⟩
theorem open_rules {fuel : Nat} {v : Value} {x : DataW H × List MemPlace} (h : DataW.trod enc Tryd.prog w base spare held fuel 22 [v] = some x) :
    ∃ l : List RuleD, (∀ r ∈ l, r.ok) ∧ l.length ≤ maxLen ∧ rdAt w v l.length (ruleCells l) := by
  rcases Go.Deep.open_slice tk22.under h with ⟨hv, _⟩ | ⟨a, len, cap, m, n, D, Pl, hv, _, hl, hm, hme, _, hel⟩
  · cases hv
    exact ⟨[], by simp, by simp, none, 0, rfl, fun j u hj => by simp [ruleCells] at hj⟩
  · cases hv
    have hlm : len ≤ m := by rw [hme]; split <;> omega
    have key : ∀ i, i < len → ∃ r : RuleD, r.ok ∧ ∀ k u, r.cells[k]? = some u → w.cell? (a.add (i * 5 + k)) = some u := fun i hi => by
      obtain ⟨cs, hc, ht⟩ := hel i (by omega)
      obtain ⟨r, hr, rfl⟩ := open_rule ht
      rw [cellsRule] at hc
      refine ⟨r, hr, fun k u hk => ?_⟩
      have hk3 : k < 5 := by have := (List.getElem?_eq_some_iff.1 hk).1; simpa [RuleD.cells] using this
      have := (World.cells?_some hc)
      have h3 := this.2.2 k hk3
      rw [Go.Deep.add_add] at h3
      rw [h3]; exact hk
    have hf : ∃ f : Nat → RuleD, ∀ i, i < len → (f i).ok ∧ ∀ k u, (f i).cells[k]? = some u → w.cell? (a.add (i * 5 + k)) = some u := by
      haveI : Inhabited RuleD := ⟨⟨0, 0, 0, 0, 0⟩⟩
      exact Go.Deep.choose_lt key
    obtain ⟨f, hf⟩ := hf
    refine ⟨(List.range len).map f, fun r hr => ?_, by simp; omega, some a, cap, by simp, fun j u hj => ?_⟩
    · obtain ⟨i, hi, rfl⟩ := List.mem_map.1 hr
      exact (hf i (List.mem_range.1 hi)).1
    · obtain ⟨r, hr, hu⟩ := ruleCells_div _ _ _ hj
      obtain ⟨hlt, he⟩ := List.getElem?_eq_some_iff.1 hr
      simp only [List.length_map, List.length_range] at hlt
      simp only [List.getElem_map, List.getElem_range] at he
      subst he
      have hc := (hf _ hlt).2 _ _ hu
      rw [show j / 5 * 5 + j % 5 = j from by omega] at hc
      have h0 := (hf 0 (by omega)).2 0 _ rfl
      obtain ⟨g, off, spot⟩ := a
      have hs : spot = none := by
        cases spot with
        | none => rfl
        | some s =>
          simp only [World.cell?, Addr.add] at h0
          split at h0 <;> simp at h0
      subst hs
      refine ⟨g, off, rfl, ?_⟩
      rw [addr_add] at hc; exact hc
theorem open_conf {fuel : Nat} {cs : List Value} {x : DataW H × List MemPlace} (h : DataW.trod enc Tryd.prog w base spare held fuel 24 cs = some x) :
    ∃ (v : Value) (c : ConfD), c.ok ∧ c.rules.length ≤ maxLen ∧ cs = c.cells v ∧ rdAt w v c.rules.length (ruleCells c.rules) := by
  obtain ⟨y0, y1, y2, n, _, hl, f0, f1, f2⟩ := Go.Deep.trod_struct3 tk24.under h
  rw [cellsConf] at hl
  simp only [cellsInt, cellsRules] at f0 f1 f2
  obtain ⟨a, b, d, rfl⟩ : ∃ a b c, cs = [a, b, c] := by
    match cs, hl with
    | [a, b, c], _ => exact ⟨a, b, c, rfl⟩
  obtain ⟨k1, e1, _, w1⟩ := DataW.trod_int (k := .i64) tk3.under f1
  obtain ⟨k2, e2, _, w2⟩ := DataW.trod_int (k := .i64) tk3.under f2
  obtain ⟨l, h1, h2, h3⟩ := open_rules (v := a) (by simpa using f0)
  simp at e1 e2
  subst e1 e2
  exact ⟨a, ⟨l, k1, k2⟩, ⟨h1, bounds_i64 w1, bounds_i64 w2⟩, h2, rfl, h3⟩
end
end Go.Proofs.YtnfcbpgckomdfaaDoor
