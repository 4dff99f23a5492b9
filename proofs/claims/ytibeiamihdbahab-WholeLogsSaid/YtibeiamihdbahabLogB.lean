/- log.Build; ref05.Same. -/
import Derived.Test.YtibeiamihdbahabRd
namespace Go.Proofs.Ytibeiamihdbahab
def buildN (acc : List UInt8) : List Rec → List UInt8 × Int
  | [] => (acc, 0)
  | r :: rs => if (encode r).2 ≠ 0 then ([], (encode r).2) else buildN (acc ++ (encode r).1) rs
/-- Records as bytes, and the error. -/
def buildL (l : List Rec) : List UInt8 × Int := buildN [] l
theorem encode_len (r : Rec) : (encode r).1.length ≤ 65560 := by
  unfold encode
  split
  · split
    · rename_i h
      simp only [encB, List.length_append, sealL_length, toB, List.length_map]
      have := putL_len10 (n := (bodyL r).length) (by omega)
      omega
    · simp
  · simp
set_option maxHeartbeats 800000
set_option maxRecDepth 10000
theorem logBuild_spec (v : Value) (l : List Rec) (hn : l.length ≤ 1048576) (hr : ∀ r ∈ l, r.ok ∧ r.text.length ≤ 70368744177664) : Spec Try.prog 6 #[v] (Rd v l.length (recCells l)) [] fun x L => x = encV (buildL l) ∧ L = [] := by
  refine Spec.go (vs := [_]) (hT := tyOk) (hm := mixed0) Try.func6 rfl Try.ntmps6 rfl ?_
  intro W p rd
  obtain ⟨a, c, rfl⟩ := rd.is
  refine Good.on ?_
  refine Good.alloc (fun b => ?_)
  refine Good.on ?_
  refine Good.loop (ι := Nat × List UInt8) (fun x => [(4, .v (.pointer (some ⟨b, 0, none⟩))), (9, .v (.slice a l.length c)), (10, .v (.int .i64 l.length)), (11, .v (.int .i64 (x.1 : Int)))]) (fun x => [bld b x.2])
    (fun x => x.1 ≤ l.length ∧ x.2.length ≤ x.1 * 65560 ∧ buildN x.2 (l.drop x.1) = buildL l) (fun x => l.length - x.1) (0, []) ⟨by simp, by simp, rfl⟩ ⟨rfl, rfl, rfl, rfl, trivial⟩ (fun _ h => Sat.bldNew h) ?_
  rintro ⟨i, acc⟩ ⟨hi, hl, he⟩
  dsimp only at hi hl he ⊢
  refine Good.on ?_
  refine Good.ifD (fun h => ?_) (fun h => ?_) <;> refine Good.on ?_
  · have hi' : i < l.length := by omega
    obtain ⟨r, hri⟩ : ∃ r, l[i]? = some r := ⟨_, List.getElem?_eq_getElem hi'⟩
    have hmem : r ∈ l := List.mem_of_getElem? hri
    have hd : l.drop i = r :: l.drop (i + 1) := by
      rw [List.drop_eq_getElem_cons hi']; congr 1
      rw [List.getElem?_eq_getElem hi'] at hri; exact Option.some.inj hri
    obtain ⟨g, off, rfl, hc⟩ := rd.pos (by rw [recCells_length]; omega)
    refine Good.val (Yv.indexAddr rfl rfl rfl rfl rfl rfl (by omega) (by omega)) ?_
    refine Good.on ?_
    refine Good.loadRd r.cells (fun w h j v hj => ?_) ?_
    · have := hc _ w h _ _ (recCells_get l i r hri j v hj)
      rw [← Nat.add_assoc] at this; exact this
    refine Good.on ?_
    refine Good.alloc (fun g' => ?_)
    refine Good.on ?_
    refine Good.store 0 ?_
    refine Good.on ?_
    refine Good.loadRow 0 ?_
    refine Good.on ?_
    refine Good.call0 (frameEncode_spec r (hr r hmem).1 (hr r hmem).2) ck5 ?_
    rintro v1 L ⟨rfl, rfl⟩
    refine Good.on ?_
    rw [hd, buildN] at he
    refine Good.ifB (fun h2 => ?_) (fun h2 => ?_) <;> refine Good.on ?_
    · have hbad : (encode r).2 ≠ 0 := by simpa using h2
      rw [if_pos hbad] at he
      refine Good.ret2 Try.results6 (Res.tmp rfl) (Res.tmp rfl) ⟨?_, rfl⟩ (fun _ h => h.tail.tail)
      rw [← he]; rfl
    · have hok : (encode r).2 = 0 := by simpa using h2
      rw [if_neg (by simpa using hok)] at he
      have hlen := encode_len r
      refine Good.call1 1 (writeString_spec b acc (encode r).1 (by omega)) ck18 ?_
      rintro v2 L ⟨rfl, rfl⟩
      refine Good.on ?_
      refine Good.again (i + 1, acc ++ (encode r).1) ⟨⟨by dsimp only; omega, by dsimp only; rw [List.length_append]; omega, he⟩, by dsimp only; omega⟩ ⟨rfl, rfl, rfl, ?_, trivial⟩ (fun w h => h.second)
      show some (Value.int .i64 _) = _
      rw [w64 _ (by omega)]; simp [Ent.val]
  · have hi' : i = l.length := by omega
    subst hi'
    rw [List.drop_length, buildN] at he
    refine Good.call1 0 (builderString_spec b acc (by omega)) ck19 ?_
    rintro v2 L ⟨rfl, rfl⟩
    refine Good.on ?_
    refine Good.ret2 Try.results6 (Res.tmp rfl) (Res.tmp rfl) ⟨?_, rfl⟩ (fun _ h => h.tail)
    rw [← he]; rfl
theorem same_spec (va vb : Value) (l m : List Rec) (h1 : l.length ≤ 1099511627776) (h2 : m.length ≤ 1099511627776) : Spec Try.prog 8 #[va, vb] (fun W q => Rd va l.length (recCells l) W q ∧ Rd vb m.length (recCells m) W q) [] fun x L => x = .bool (decide (l = m)) ∧ L = [] := by
  refine Spec.go (vs := [_, _]) (hT := tyOk) (hm := mixed0) Try.func8 rfl Try.ntmps8 rfl ?_
  rintro W p ⟨ra, rb⟩
  obtain ⟨a, ca, rfl⟩ := ra.is
  obtain ⟨b, cb, rfl⟩ := rb.is
  refine Good.on ?_
  refine Good.ifB (fun h => ?_) (fun h => ?_) <;> refine Good.on ?_
  · refine Good.ret1 Try.results8 (Res.tmp rfl) ⟨?_, rfl⟩ (fun _ h => h)
    have : l ≠ m := fun e => by subst e; simp at h
    simp [this]
  · have hlm : l.length = m.length := by have : (l.length : Int) = m.length := by simpa using h
                                         omega
    refine Good.loop (ι := Nat) (fun i => [(0, .v (.slice a l.length ca)), (1, .v (.slice b m.length cb)), (5, .v (.int .i64 (i : Int)))]) (fun _ => [])
      (fun i => i ≤ l.length ∧ l.take i = m.take i) (fun i => l.length - i) 0 ⟨by simp, by simp⟩ ⟨rfl, rfl, rfl, trivial⟩ (fun _ h => h) ?_
    rintro i ⟨hi, ht⟩
    refine Good.on ?_
    refine Good.ifD (fun h => ?_) (fun h => ?_) <;> refine Good.on ?_
    · have hi' : i < l.length := by omega
      have hr : l[i]? = some l[i] := List.getElem?_eq_getElem hi'
      have hs : m[i]? = some (m[i]'(by omega)) := List.getElem?_eq_getElem (by omega)
      obtain ⟨g, off, rfl, hc⟩ := ra.pos (by rw [recCells_length]; omega)
      obtain ⟨g', off', rfl, hc'⟩ := rb.pos (by rw [recCells_length]; omega)
      refine Good.drawn ?_
      refine Good.hold (fun w => (∀ j v, l[i].cells[j]? = some v → w.cell? ⟨g, off + i * 3 + j, none⟩ = some v) ∧ (∀ j v, (m[i]'(by omega)).cells[j]? = some v → w.cell? ⟨g', off' + i * 3 + j, none⟩ = some v)) (fun w h => ⟨fun j v hj => ?_, fun j v hj => ?_⟩) ?_
      · have := hc _ w h _ _ (recCells_get l i _ hr j v hj)
        rw [← Nat.add_assoc] at this; exact this
      · have := hc' _ w h _ _ (recCells_get m i _ hs j v hj)
        rw [← Nat.add_assoc] at this; exact this
      refine Good.dval 2 rfl (Yv.indexAddr rfl rfl rfl rfl rfl rfl (by omega) (by omega)) ?_
      refine Good.dval 6 rfl (Yv.indexAddr rfl rfl rfl rfl rfl rfl (by omega) (by omega)) ?_
      refine Good.dloadRow 3 l[i].cells rfl (fun w h => h.1) ?_
      refine Good.dloadRow 7 (m[i]'(by omega)).cells rfl (fun w h => h.2) ?_
      refine Good.dval 8 rfl (Yv.recNe (a := l[i]) (b := m[i]'(by omega)) rfl rfl rfl) ?_
      refine Good.dend ?_
      refine Good.on ?_
      refine Good.ifB (fun h2 => ?_) (fun h2 => ?_) <;> refine Good.on ?_
      · refine Good.ret1 Try.results8 (Res.tmp rfl) ⟨?_, rfl⟩ (fun _ h => h)
        have : l ≠ m := fun e => by subst e; simp at h2
        simp [this]
      · have he : l[i] = m[i]'(by omega) := by simpa using h2
        refine Good.again (i + 1) ⟨⟨by omega, ?_⟩, by omega⟩ ⟨rfl, rfl, ?_, trivial⟩ (fun _ h => h)
        · rw [List.take_succ_eq_append_getElem hi', List.take_succ_eq_append_getElem (by omega), ht, he]
        · show some (Value.int .i64 _) = _
          rw [w64 _ (by omega)]; rfl
    · have : i = l.length := by omega
      subst this
      refine Good.ret1 Try.results8 (Res.tmp rfl) ⟨?_, rfl⟩ (fun _ h => h)
      have : l = m := by
        rw [List.take_length, hlm, List.take_length] at ht; exact ht
      simp [this]
end Go.Proofs.Ytibeiamihdbahab
