/- tidewaiterlaw19.ConfigBack. -/
import Derived.Test.YtnfcbpgckomdfaaDoorBack
namespace Go.Proofs.YtnfcbpgckomdfaaDoor
open Go.Lib (strCells)
theorem rdAt.front {w : World} {a : Option Addr} {n c m : Nat} {xs ys : List Value} (h : rdAt w (.slice a n c) n (xs ++ ys)) : rdAt w (.slice a m c) m xs := by
  obtain ⟨a', c', he, h1⟩ := h
  cases he
  refine ⟨a, c, rfl, fun j u hj => h1 j u ?_⟩
  rw [List.getElem?_append_left (List.getElem?_eq_some_iff.1 hj).1]; exact hj
set_option maxHeartbeats 1600000
set_option maxRecDepth 20000
theorem configBack_spec (v : Value) (c : ConfD) (hc : c.ok) (hn : c.rules.length ≤ 9223372036854775807) : Spec Tryd.prog 3 #[c.val v] (fun W p => Env W p ∧ Rd v c.rules.length (ruleCells c.rules) W p) [] fun r L => r = .bool true ∧ L = [] := by
  refine Spec.go (vs := [_]) (hT := tyOk) (hm := mixed0) Tryd.func3 rfl Tryd.ntmps3 rfl ?_
  rintro W p ⟨hE, rd⟩
  obtain ⟨a, ca, rfl⟩ := rd.is
  refine Good.on ?_
  refine Good.box (us := c.cells _) (fun g => ?_)
  refine Good.on ?_
  refine Good.callK [] speaks19_spec stays_env hE ck10 ?_
  rintro r L ⟨rfl, rfl⟩
  refine Good.on ?_
  (refine Good.ifB (fun h => ?_) (fun h => ?_); exact absurd h (by decide))
  refine Good.on ?_
  refine Good.load 0 (v := .slice a c.rules.length ca) ?_
  refine Good.on ?_
  refine Good.ifD (fun h100 => ?_) (fun h100 => ?_) <;> refine Good.on ?_
  · refine Good.ret1 Tryd.results3 (Res.tmp rfl) ⟨rfl, rfl⟩ (fun _ h => h.clear)
  refine Good.load 0 (v := .slice a c.rules.length ca) ?_
  refine Good.on ?_
  refine Good.loop (ι := Nat × Bool) (fun x => [(1, .v (.pointer (some ⟨g, 0, none⟩))), (3, .v (.bool x.2)), (17, .v (.slice a c.rules.length ca)), (18, .v (.int .i64 c.rules.length)), (19, .v (.int .i64 (x.1 : Int)))]) (fun _ => [HP.row g (c.cells (.slice a c.rules.length ca)) 24])
    (fun x => x.1 ≤ c.rules.length ∧ x.2 = (c.rules.take x.1).all onlyB) (fun x => c.rules.length - x.1) (0, true) ⟨by simp, by simp⟩ ⟨rfl, rfl, rfl, rfl, rfl, trivial⟩ (fun _ h => h) ?_
  rintro ⟨i, only⟩ ⟨hi, hon⟩
  dsimp only at hi hon ⊢
  refine Good.on ?_
  refine Good.ifD (fun h => ?_) (fun h => ?_) <;> refine Good.on ?_
  · have hi' : i < c.rules.length := by omega
    have hri : c.rules[i]? = some c.rules[i] := List.getElem?_eq_getElem hi'
    obtain ⟨g0, off, rfl, hcell⟩ := rd.pos (by rw [ruleCells_length]; omega)
    refine Good.val (Yv.indexAddr rfl rfl rfl rfl rfl rfl (by omega) (by omega)) ?_
    refine Good.on ?_
    refine Good.loadRd c.rules[i].cells (fun w h j v hj => ?_) ?_
    · have := hcell _ w h _ _ (ruleCells_get c.rules i _ hri j v hj)
      rw [← Nat.add_assoc] at this; exact this
    refine Good.on ?_
    have hok := hc.rules _ (List.getElem_mem hi')
    obtain ⟨r, hrr⟩ : ∃ r, c.rules[i] = r := ⟨_, rfl⟩
    rw [hrr] at hok ⊢
    refine Good.alloc (fun g5 => ?_)
    refine Good.on ?_
    refine Good.store 0 ?_
    refine Good.on ?_
    refine Good.hold (fun w => ∀ j v, r.cells[j]? = some v → w.cell? ⟨g5, 0 + j, none⟩ = some v) (fun w h j v hj => h.cell 0 rfl (by rw [Nat.zero_add]; exact hj)) ?_
    refine Good.drawn ?_
    refine Good.dloadRow 0 r.cells rfl (fun w h => h) ?_
    refine Good.dloadRow 2 r.cells rfl (fun w h => h) ?_
    refine Good.doneS 1 rfl (OpW.callK [] (cfgRule_spec r hok) stays_env hE ck11 rfl rfl rfl rfl ?_)
    rintro v L ⟨rfl, rfl⟩
    refine ⟨fun w h j v hj => h.cell 0 rfl (by rw [Nat.zero_add]; exact hj), ?_⟩
    refine Good.doneS 3 rfl (OpW.call0 (refRule_spec r hok) ck12 rfl rfl rfl ?_)
    rintro v L ⟨rfl, rfl⟩
    refine ⟨fun w h j v hj => h.cell 0 rfl (by rw [Nat.zero_add]; exact hj), ?_⟩
    refine Good.drawn ?_
    refine Good.dend ?_
    refine Good.on ?_
    refine Good.ifB (fun h2 => ?_) (fun h2 => ?_) <;> refine Good.on ?_
    · simp at h2
    have hnext : (c.rules.take (i + 1)).all onlyB = (only && onlyB r) := by
      rw [List.take_succ_eq_append_getElem hi', List.all_append, ← hon, hrr]; simp
    refine Good.partB (fun h3 => ?_) (fun h3 => ?_) <;> refine Good.on ?_
    · refine Good.loadRow 0 ?_
      refine Good.on ?_
      refine Good.call0 (only_spec r) ck13 ?_
      rintro v L ⟨rfl, rfl⟩
      refine Good.on ?_
      refine Good.again (i + 1, onlyB r) ⟨⟨by dsimp only; omega, by dsimp only; rw [hnext, h3]; rfl⟩, by dsimp only; omega⟩ ⟨rfl, rfl, rfl, rfl, ?_, trivial⟩ (fun w h => h.tail)
      show some (Value.int .i64 _) = _
      rw [w64 _ (by omega)]; rfl
    · refine Good.again (i + 1, false) ⟨⟨by dsimp only; omega, by dsimp only; rw [hnext, h3]; rfl⟩, by dsimp only; omega⟩ ⟨rfl, rfl, rfl, rfl, ?_, trivial⟩ (fun w h => h.tail)
      show some (Value.int .i64 _) = _
      rw [w64 _ (by omega)]; rfl
  have hi' : i = c.rules.length := by omega
  subst hi'
  rw [List.take_length] at hon
  refine Good.loadRow 0 ?_
  refine Good.on ?_
  refine Good.callK [] (cfgPrint_spec _ c hc (by omega)) (stays_env.and (stays_rd _ _ _)) ⟨hE, rd⟩ ck14 ?_
  rintro r L ⟨rfl, rfl⟩
  refine Good.on ?_
  refine Good.loadRow 0 ?_
  refine Good.on ?_
  refine Good.callK [] (refPrint_spec _ c hc (by omega)) (stays_rd _ _ _) rd ck15 ?_
  rintro r L ⟨rfl, rfl⟩
  refine Good.on ?_
  refine Good.ifB (fun h2 => ?_) (fun h2 => ?_) <;> refine Good.on ?_
  · simp at h2
  refine Good.ifB (fun h3 => ?_) (fun h3 => ?_) <;> refine Good.on ?_
  · refine Good.ret1 Tryd.results3 (Res.tmp rfl) ⟨rfl, rfl⟩ (fun _ h => h.clear)
  have hall : ∀ r ∈ c.rules, onlyB r = true := by
    have : only = true := by simpa using h3
    rw [this] at hon
    exact fun r hr => List.all_eq_true.1 hon.symm r hr
  have hpl : (printL c).length ≤ 100000 := by
    have := headL_len hc
    have := rulesL_len _ hc.rules
    rw [printL, List.length_append]; omega
  refine Good.callP [] (split_spec (printL c) 10 (by omega)) ck16 ?_
  rintro v L rfl
  have hsp := split_print c hall
  have hll := linesOf_len c
  have hsl : (splitL 10 (printL c)).length = c.rules.length + 2 := by rw [hsp, List.length_append, hll]; rfl
  have hmem : ∀ s ∈ linesOf c, s.length ≤ 100000000 := fun s hs => by
    have := splitL_mem 10 (printL c) s (by rw [hsp]; simp [hs])
    omega
  refine Good.know (fun w' h => h.slcIs (m := c.rules.length + 2) 0 rfl (by decide) (by rw [strC_length, hsl])) ?_
  rintro ⟨a1, c1, rfl, hc1, hg⟩
  obtain ⟨g1, rfl⟩ := hg (by rw [hsp]; simp [strC, linesOf])
  refine Good.on ?_
  rw [show IntKind.i64.wrap (((c.rules.length + 2 : Nat) : Int) - 1) = ((c.rules.length + 1 : Nat) : Int) from by rw [w64 _ (by omega)]; omega]
  refine Good.val (Yv.sliceSlc 0 (c.rules.length + 1) rfl rfl rfl rfl rfl rfl rfl rfl ⟨_, rfl⟩ (by omega) (by omega)) ?_
  rw [if_neg (by omega), Nat.sub_zero, Nat.sub_zero, addr_add, show 0 + 0 * ti9.size = 0 from rfl, ← hll]
  refine Good.on ?_
  refine Good.callR (parse_spec (some ⟨g1, 0, none⟩) c1 (linesOf c) (by omega) (by omega) hmem) ck17 (fun w h => ⟨stays_env.at hE h, Rd.nil ?_⟩) ?_
  · have h1 := h.slcRd (m := c.rules.length + 2) 0 rfl (by decide) (by rw [strC_length, hsl])
    rw [hsp, show strC (linesOf c ++ [[]]) = strC (linesOf c) ++ strC [[]] from by simp [strC]] at h1
    exact rdAt.front h1
  rintro r L hA
  unfold parseA at hA
  rw [parse_print c hc hall] at hA
  obtain ⟨v, rfl, rfl⟩ := hA
  refine Good.know (fun w' h => h.slcIs (m := c.rules.length) 0 rfl (by decide) (ruleCells_length _)) ?_
  rintro ⟨a2, c2, rfl, hc2, _⟩
  refine Good.on ?_
  refine Good.alloc (us := zeroD.cells (.slice none 0 0)) (fun g8 => ?_)
  refine Good.on ?_
  refine Good.store 0 ?_
  refine Good.on ?_
  refine Good.partB (fun _ => ?_) (fun h => ?_)
  rotate_left
  · simp at h
  refine Good.on ?_
  refine Good.loadRow 0 ?_
  refine Good.on ?_
  refine Good.loadRow 3 ?_
  refine Good.on ?_
  refine Good.callR (same19_spec (.slice a2 c.rules.length c2) (.slice a c.rules.length ca) c c (by omega) (by omega)) ck18 (fun w h => ⟨Rd.nil (h.slcRd 1 rfl (by decide) (ruleCells_length _)), (stays_rd _ _ _).at rd h⟩) ?_
  rintro r L ⟨rfl, rfl⟩
  refine Good.on ?_
  refine Good.ret1 Tryd.results3 (Res.tmp rfl) ⟨?_, rfl⟩ (fun _ h => h.clear)
  simp
end Go.Proofs.YtnfcbpgckomdfaaDoor
