/- tidewaiterlaw19.speaks. -/
import Derived.Test.YtnfcbpgckomdfaaDoorChk
namespace Go.Proofs.YtnfcbpgckomdfaaDoor
open Go.Lib (strCells)
def spk1 : List (List UInt8) := [[115, 111, 117, 114, 99, 101, 32, 53, 32, 49, 48], [98, 111, 117, 110, 100, 101, 100, 32, 51]]
def spk2 : List (List UInt8) := [[115, 111, 117, 114, 99, 101, 32, 53, 32, 49, 48], [98, 111, 117, 110, 100, 101, 100]]
def spkC : ConfD := ⟨[⟨0, 3, 0, 0, 0⟩], 5, 10⟩
theorem spk1_is : parseO spk1 = (spkC, 0) := by decide +kernel
theorem spk2_is : parseO spk2 = (zeroD, 2) := by decide +kernel
theorem Sat.keep2 {W w : World} {p : Hl} {A B D E : HP} (s : Sat W p [A, B, D, E] w) : Sat W p [A, B, D] w := Sat.dropL (L := [E]) (s.perm (by simpa using List.perm_append_comm (l₁ := [A, B, D]) (l₂ := [E])))
theorem rdNil (w : World) : rdAt w (.slice none 0 0) 0 [] := ⟨none, 0, rfl, fun j u h => by simp at h⟩
set_option maxHeartbeats 1600000
set_option maxRecDepth 20000
theorem speaks19_spec : Spec Tryd.prog 10 #[] Env [] fun x L => x = .bool true ∧ L = [] := by
  refine Spec.go (vs := []) (hT := tyOk) (hm := mixed0) Tryd.func10 rfl Tryd.ntmps10 rfl ?_
  rintro W p hE
  refine Good.on ?_
  refine Good.op rfl (OpW.lit rfl rfl rfl fun g => ?_)
  refine Good.mem (l' := [slc 9 1 (.slice (some ⟨g, 0, none⟩) 2 2) (strC spk1)]) (fun w h => Sat.rowSlc rfl (by unfold maxLen; omega) h) ?_
  refine Good.on ?_
  refine Good.callR (parse_spec (some ⟨g, 0, none⟩) 2 spk1 (by decide) (by decide) (by decide)) ck17 (fun w h => ⟨stays_env.at hE h, Rd.nil (h.slcRd 0 rfl (by decide) rfl)⟩) ?_
  rintro r L hA
  unfold parseA at hA
  rw [spk1_is] at hA
  obtain ⟨v, rfl, rfl⟩ := hA
  refine Good.know (fun w' h => h.slcIs (m := 1) 0 rfl (by decide) (by rfl)) ?_
  rintro ⟨a, c, rfl, hc, hg⟩
  obtain ⟨g1, rfl⟩ := hg (by decide)
  refine Good.on ?_
  refine Good.alloc (us := zeroD.cells (.slice none 0 0)) (fun g2 => ?_)
  refine Good.on ?_
  refine Good.store 0 ?_
  refine Good.on ?_
  refine Good.op rfl (OpW.lit rfl rfl rfl fun g3 => ?_)
  refine Good.mem (l' := [slc 9 1 (.slice (some ⟨g3, 0, none⟩) 2 2) (strC spk2), HP.row g2 (spkC.cells (.slice (some ⟨g1, 0, none⟩) 1 c)) 24, slc 27 5 (.slice (some ⟨g1, 0, none⟩) 1 c) (ruleCells spkC.rules)]) (fun w h => Sat.keep2 (Sat.rowSlc rfl (by unfold maxLen; omega) h)) ?_
  refine Good.on ?_
  refine Good.callR (parse_spec (some ⟨g3, 0, none⟩) 2 spk2 (by decide) (by decide) (by decide)) ck17 (fun w h => ⟨stays_env.at hE h, Rd.nil (h.slcRd 0 rfl (by decide) rfl)⟩) ?_
  rintro r L hA
  unfold parseA at hA
  rw [spk2_is] at hA
  obtain ⟨v, rfl, rfl⟩ := hA
  refine Good.know (fun w' h => h.slcIs (m := 0) 0 rfl (by decide) (by rfl)) ?_
  rintro ⟨a, c', rfl, hc', _⟩
  refine Good.on ?_
  refine Good.alloc (us := zeroD.cells (.slice none 0 0)) (fun g4 => ?_)
  refine Good.on ?_
  refine Good.store 0 ?_
  refine Good.on ?_
  refine Good.mem (l' := [HP.row g2 (spkC.cells (.slice (some ⟨g1, 0, none⟩) 1 c)) 24, slc 27 5 (.slice (some ⟨g1, 0, none⟩) 1 c) (ruleCells spkC.rules)]) (fun w h => h.tail.tail.tail) ?_
  (refine Good.partB (fun h => ?_) (fun h => ?_); rotate_left; exact absurd h (by decide))
  refine Good.on ?_
  (refine Good.partB (fun h => ?_) (fun h => ?_); rotate_left; exact absurd h (by decide))
  refine Good.on ?_
  refine Good.load 0 (v := .int .i64 5) ?_
  refine Good.on ?_
  (refine Good.partB (fun h => ?_) (fun h => ?_); rotate_left; exact absurd h (by decide))
  refine Good.on ?_
  refine Good.load 0 (v := .int .i64 10) ?_
  refine Good.on ?_
  (refine Good.partB (fun h => ?_) (fun h => ?_); rotate_left; exact absurd h (by decide))
  refine Good.on ?_
  refine Good.load 0 (v := .slice (some ⟨g1, 0, none⟩) 1 c) ?_
  refine Good.on ?_
  (refine Good.partB (fun h => ?_) (fun h => ?_); rotate_left; exact absurd h (by decide))
  refine Good.on ?_
  refine Good.load 0 (v := .slice (some ⟨g1, 0, none⟩) 1 c) ?_
  refine Good.on ?_
  refine Good.val (Yv.indexAddr rfl rfl rfl rfl rfl rfl (by decide) (by decide)) ?_
  refine Good.on ?_
  refine Good.loadRd (g := g1) (k := 0) (RuleD.mk 0 3 0 0 0).cells (fun w h j v hj => h.slcCell (j := j) 1 rfl (by rw [Nat.zero_add]) (by simpa [spkC, ruleCells] using hj)) ?_
  refine Good.on ?_
  refine Good.build ?_
  refine Good.on ?_
  refine Good.val (Yv.ruleEql (a := RuleD.mk 0 3 0 0 0) (b := RuleD.mk 0 3 0 0 0) rfl rfl rfl) ?_
  refine Good.on ?_
  (refine Good.partB (fun h => ?_) (fun h => ?_); rotate_left; exact absurd h (by decide))
  refine Good.on ?_
  refine Good.loadRow 0 ?_
  refine Good.on ?_
  refine Good.callR (cfgCheck_spec (.slice (some ⟨g1, 0, none⟩) 1 c) spkC (by decide)) ck47 (fun w h => Rd.nil (h.slcRd 1 rfl (by decide) rfl)) ?_
  rintro r L ⟨rfl, rfl⟩
  rw [show chkL spkC = 0 from by decide +kernel]
  refine Good.on ?_
  (refine Good.partB (fun h => ?_) (fun h => ?_); rotate_left; exact absurd h (by decide))
  refine Good.on ?_
  refine Good.build ?_
  refine Good.on ?_
  refine Good.callR (cfgCheck_spec (.slice none 0 0) zeroD (by decide)) ck47 (fun w h => Rd.nil (rdNil w)) ?_
  rintro r L ⟨rfl, rfl⟩
  rw [show chkL zeroD = 6 from by decide +kernel]
  refine Good.on ?_
  refine Good.ret1 Tryd.results10 (Res.tmp rfl) ⟨?_, rfl⟩ (fun _ h => h.clear)
  rfl
end Go.Proofs.YtnfcbpgckomdfaaDoor
