/- strings.Builder: WriteString, String. For all of this seat's walks. -/
import Derived.Test.YtnfcbpgckomdfaaDoorBuf
namespace Go.Proofs.YtnfcbpgckomdfaaDoor
/-- A builder that holds bs. -/
def bld (b : Nat) (bs : List UInt8) : HP := HP.ex fun (x : Option Addr × Value) => HP.star (HP.pure (x.1 = none ∨ x.1 = some ⟨b, 0, none⟩)) (HP.star (HP.row b [.pointer x.1, x.2] 107) (bufF 5 x.2 bs))
theorem Sat.bldShut {W w : World} {p : Hl} {l : List HP} {b : Nat} {q : Option Addr} {v : Value} {bs : List UInt8} (h : q = none ∨ q = some ⟨b, 0, none⟩) (s : Sat W p (HP.row b [.pointer q, v] 107 :: bufF 5 v bs :: l) w) : Sat W p (bld b bs :: l) w :=
  Sat.unex (A := fun (x : Option Addr × Value) => HP.star (HP.pure (x.1 = none ∨ x.1 = some ⟨b, 0, none⟩)) (HP.star (HP.row b [.pointer x.1, x.2] 107) (bufF 5 x.2 bs))) (q, v) (Sat.join (Sat.unpure h (Sat.join s)))
theorem Sat.bldOpen {W w : World} {p : Hl} {l : List HP} {b : Nat} {bs : List UInt8} (s : Sat W p (bld b bs :: l) w) : ∃ x : Option Addr × Value, (x.1 = none ∨ x.1 = some ⟨b, 0, none⟩) ∧ Sat W p (HP.row b [.pointer x.1, x.2] 107 :: bufF 5 x.2 bs :: l) w := by
  obtain ⟨x, h⟩ := Sat.ex s
  obtain ⟨h1, h2⟩ := h.split.pure
  exact ⟨x, h1, h2.split⟩
theorem Sat.bldNew {W w : World} {p : Hl} {l : List HP} {b : Nat} (s : Sat W p (HP.row b [.pointer none, .slice none 0 0] 107 :: l) w) : Sat W p (bld b [] :: l) w := by
  have h := Sat.bufNil 5 s
  exact Sat.bldShut (.inl rfl) (h.perm (List.Perm.swap _ _ _))
section
variable {C : Cx} {Q0 : Exit → Act → World → Prop} {K : List Fr} {tm : Tm} {l : List HP}
theorem Good.bldOpen {s : St} {b : Nat} {bs : List UInt8} (h : ∀ q v, (q = none ∨ q = some ⟨b, 0, none⟩) → Good C Q0 s K tm (HP.row b [.pointer q, v] 107 :: bufF 5 v bs :: l)) : Good C Q0 s K tm (bld b bs :: l) := by
  refine Good.ex fun x => ?_
  refine Good.know (X := x.1 = none ∨ x.1 = some ⟨b, 0, none⟩) (fun w h => h.split.pure.1) fun hx => ?_
  cases s with
  | drw ops S L =>
    intro q q' k hk a w hA hS
    exact h x.1 x.2 hx (fun w hw => q w (Sat.join (Sat.unpure hx (Sat.join hw)))) q' k hk a w hA (hS.split.pure.2.split)
  | _ => exact Good.mem (fun w h => h.split.pure.2.split) (h x.1 x.2 hx)
end
set_option maxRecDepth 10000
theorem copyCheck_spec (b : Nat) (q : Option Addr) (v : Value) (hq : q = none ∨ q = some ⟨b, 0, none⟩) : Spec Tryd.prog 83 #[.pointer (some ⟨b, 0, none⟩)] noFacts [HP.row b [.pointer q, v] 107] fun r L => r = .tuple #[] ∧ L = [HP.row b [.pointer (some ⟨b, 0, none⟩), v] 107] := by
  refine Spec.go (vs := [_]) (hT := tyOk) (hm := mixed0) Tryd.func83 rfl Tryd.ntmps83 rfl ?_
  intro W p _
  refine Good.on ?_
  refine Good.load 0 ?_
  refine Good.on ?_
  refine Good.val (Yv.ptrNil rfl rfl rfl rfl rfl) ?_
  refine Good.on ?_
  rcases hq with rfl | rfl
  · refine Good.ifB (fun h => ?_) (fun h => ?_)
    rotate_left
    · exact absurd h (by simp)
    refine Good.on ?_
    refine Good.op rfl (OpW.toUnsafe 0 rfl rfl rfl (by simp) rfl rfl rfl rfl rfl ?_ rfl ?_)
    · decide
    refine Good.on ?_
    refine Good.val (Yv.noEscape Tryd.func105 (by kernel_rfl) (by kernel_rfl) (by kernel_rfl) (by kernel_rfl) rfl rfl) ?_
    refine Good.on ?_
    refine Good.op rfl (OpW.fromUnsafe 0 rfl rfl rfl (by kernel_rfl) rfl rfl rfl rfl rfl rfl ?_)
    refine Good.on ?_
    refine Good.store 0 ?_
    refine Good.on ?_
    exact Good.end0 Tryd.results83 ⟨rfl, rfl⟩ (fun _ h => h)
  · refine Good.ifB (fun h => ?_) (fun h => ?_)
    · exact absurd h (by simp)
    refine Good.on ?_
    refine Good.load 0 ?_
    refine Good.on ?_
    refine Good.val (Yv.ptrNeSame rfl rfl rfl rfl rfl rfl) ?_
    refine Good.on ?_
    refine Good.ifB (fun h => ?_) (fun h => ?_)
    · exact absurd h (by simp)
    refine Good.on ?_
    exact Good.end0 Tryd.results83 ⟨rfl, rfl⟩ (fun _ h => h)
theorem writeString_spec (b : Nat) (bs cs : List UInt8) (hl : bs.length + cs.length ≤ 140737488355328) : Spec Tryd.prog 55 #[.pointer (some ⟨b, 0, none⟩), .string (str cs)] noFacts [bld b bs] fun r L => r = .tuple #[.int .i64 cs.length, .nilIface] ∧ L = [bld b (bs ++ cs)] := by
  refine Spec.go (vs := [_, _]) (hT := tyOk) (hm := mixed0) Tryd.func55 rfl Tryd.ntmps55 rfl ?_
  intro W p _
  refine Good.on ?_
  refine Good.bldOpen fun q v hq => ?_
  refine Good.call1 0 (copyCheck_spec b q v hq) ck83 ?_
  rintro r L ⟨rfl, rfl⟩
  refine Good.on ?_
  refine Good.load 0 ?_
  refine Good.on ?_
  refine Good.bufAppend 1 (fun v' => ?_) hl
  refine Good.know (fun w h => h.bufIs 1 rfl) fun hv => ?_
  obtain ⟨q', m, c, rfl⟩ := hv
  refine Good.on ?_
  refine Good.store 0 ?_
  refine Good.on ?_
  refine Good.ret2 Tryd.results55 (Res.tmp rfl) (Res.tmp rfl) ⟨?_, rfl⟩ (fun _ h => Sat.bldShut (.inr rfl) h)
  simp
theorem cells1 : Tryd.prog.cellsOf 5 = 1 := by kernel_rfl
theorem builderString_spec (b : Nat) (bs : List UInt8) (hl : bs.length ≤ 140737488355328) : Spec Tryd.prog 56 #[.pointer (some ⟨b, 0, none⟩)] noFacts [bld b bs] fun r L => r = .string (str bs) ∧ L = [bld b bs] := by
  refine Spec.go (vs := [_]) (hT := tyOk) (hm := mixed0) Tryd.func56 rfl Tryd.ntmps56 rfl ?_
  intro W p _
  refine Good.on ?_
  refine Good.bldOpen fun q v hq => ?_
  refine Good.know (X := (v = .slice none 0 0 ∧ bs = []) ∨ ∃ g cap, v = .slice (some ⟨g, 0, none⟩) bs.length cap ∧ 0 < cap) (fun w h => ?_) fun hv => ?_
  · rcases (h.perm (List.Perm.swap _ _ _)).bufOpen with ⟨h1, h2, _⟩ | ⟨g, cap, _, _, h1, h2, _⟩
    · exact .inl ⟨h1, h2⟩
    · exact .inr ⟨g, cap, h1, h2⟩
  refine Good.drawn ?_
  refine Good.hold (fun w => w.cell? ⟨b, 1, none⟩ = some v) (fun w h => h.cell 0 rfl rfl) ?_
  refine Good.dload 3 rfl (fun w h => h) ?_
  refine Good.dload 8 rfl (fun w h => h) ?_
  rcases hv with ⟨rfl, rfl⟩ | ⟨g, cap, rfl, hc⟩
  · refine Good.dval 4 rfl (Yv.sliceData0 rfl rfl) ?_
    refine Good.drawn ?_
    refine Good.dval 10 rfl (Yv.unsafeStr0 rfl rfl rfl) ?_
    refine Good.drawn ?_
    refine Good.dend ?_
    refine Good.on ?_
    exact Good.ret1 Tryd.results56 (Res.tmp rfl) ⟨rfl, rfl⟩ (fun _ h => Sat.bldShut hq h)
  · refine Good.dval 4 rfl (Yv.sliceData rfl rfl hc) ?_
    refine Good.drawn ?_
    by_cases h0 : bs = []
    · subst h0
      refine Good.dval 10 rfl (Yv.unsafeStr0 rfl rfl rfl) ?_
      refine Good.drawn ?_
      refine Good.dend ?_
      refine Good.on ?_
      exact Good.ret1 Tryd.results56 (Res.tmp rfl) ⟨rfl, rfl⟩ (fun _ h => Sat.bldShut hq h)
    · refine Good.doneS 10 rfl (OpW.unsafeStr 1 rfl rfl rfl rfl h0 rfl rfl cells1 hl rfl ⟨fun w h => h.cell 0 rfl rfl, ?_⟩)
      refine Good.drawn ?_
      refine Good.dend ?_
      refine Good.on ?_
      exact Good.ret1 Tryd.results56 (Res.tmp rfl) ⟨rfl, rfl⟩ (fun _ h => Sat.bldShut hq h)
end Go.Proofs.YtnfcbpgckomdfaaDoor
