/- tidewaitertop.WholeLogs. -/
import Derived.Test.YtibeiamihdbahabApp
namespace Go.Proofs.Ytibeiamihdbahab
set_option maxHeartbeats 1600000
set_option maxRecDepth 20000
theorem wholeLogs_spec (v : Value) (l : List Rec) (more : List UInt8) (hr : ∀ r ∈ l, r.ok) (hll : l.length ≤ 9223372036854775807) (hm : more.length ≤ 9223372036854775807) : Spec Try.prog 3 #[v, .string (str more)] (Rd v l.length (recCells l)) [] fun x L => x = .bool true ∧ L = [] := by
  refine Spec.go (vs := [_, _]) (hT := tyOk) (hm := mixed0) Try.func3 rfl Try.ntmps3 rfl ?_
  intro W p rd
  obtain ⟨a, c, rfl⟩ := rd.is
  refine Good.on ?_
  refine Good.build ?_
  refine Good.on ?_
  refine Good.call0 (frameEncode_spec ⟨1, 0, []⟩ (by unfold Rec.ok; simp) (by simp)) ck5 ?_
  rintro v1 L ⟨rfl, rfl⟩
  rw [encode_one.1]
  refine Good.on ?_
  refine Good.partB (fun h => ?_) (fun h => ?_)
  · exact absurd h (by decide)
  refine Good.on ?_
  refine Good.ifB (fun h => ?_) (fun h => ?_)
  · rw [str_size, encode_one.2] at h; exact absurd h (by decide)
  refine Good.on ?_
  refine Good.partD (fun h20 => ?_) (fun h20 => ?_) <;> refine Good.on ?_
  · exact Good.ret1 Try.results3 (Res.tmp rfl) ⟨rfl, rfl⟩ (fun _ h => h)
  refine Good.ifD (fun h500 => ?_) (fun h500 => ?_) <;> refine Good.on ?_
  · exact Good.ret1 Try.results3 (Res.tmp rfl) ⟨rfl, rfl⟩ (fun _ h => h)
  rw [str_size] at h500
  have hl20 : l.length ≤ 20 := by omega
  have hm500 : more.length ≤ 500 := by omega
  refine Good.loop (ι := Nat) (fun i => [(0, .v (.slice a l.length c)), (1, .v (.string (str more))), (46, .v (.slice a l.length c)), (47, .v (.int .i64 l.length)), (48, .v (.int .i64 (i : Int)))]) (fun _ => [])
    (fun i => i ≤ l.length ∧ ∀ r ∈ l.take i, r.text.length ≤ 100) (fun i => l.length - i) 0 ⟨by simp, by simp⟩ ⟨rfl, rfl, rfl, rfl, rfl, trivial⟩ (fun _ h => h) ?_
  rintro i ⟨hi, ht⟩
  refine Good.on ?_
  refine Good.ifD (fun h => ?_) (fun h => ?_) <;> refine Good.on ?_
  · have hi' : i < l.length := by omega
    have hri : l[i]? = some l[i] := List.getElem?_eq_getElem hi'
    obtain ⟨g, off, rfl, hc⟩ := rd.pos (by rw [recCells_length]; omega)
    refine Good.val (Yv.indexAddr rfl rfl rfl rfl rfl rfl (by omega) (by omega)) ?_
    refine Good.on ?_
    refine Good.loadRd l[i].cells (fun w h j v hj => ?_) ?_
    · have := hc _ w h _ _ (recCells_get l i _ hri j v hj)
      rw [← Nat.add_assoc] at this; exact this
    refine Good.on ?_
    refine Good.alloc (fun g' => ?_)
    refine Good.on ?_
    refine Good.store 0 ?_
    refine Good.on ?_
    refine Good.load 0 ?_
    refine Good.on ?_
    refine Good.ifD (fun h2 => ?_) (fun h2 => ?_) <;> refine Good.on ?_
    · exact Good.ret1 Try.results3 (Res.tmp rfl) ⟨rfl, rfl⟩ (fun _ h => h.tail)
    · rw [str_size] at h2
      refine Good.again (i + 1) ⟨⟨by omega, fun r hr => ?_⟩, by omega⟩ ⟨rfl, rfl, rfl, rfl, ?_, trivial⟩ (fun _ h => h.tail)
      · rw [List.take_succ_eq_append_getElem hi'] at hr
        rcases List.mem_append.1 hr with h | h
        · exact ht r h
        · rw [List.mem_singleton.1 h]; omega
      · show some (Value.int .i64 _) = _
        rw [w64 _ (by omega)]; rfl
  have hil : i = l.length := by omega
  subst hil
  rw [List.take_length] at ht
  refine Good.callR (logBuild_spec (.slice a l.length c) l (by omega) (fun r h => ⟨hr r h, by have := ht r h; omega⟩)) ck6 (fun w h => Rd.nil (rd.at h)) ?_
  rintro v2 L ⟨rfl, rfl⟩
  obtain ⟨s, e⟩ : ∃ s e, buildL l = (s, e) := ⟨_, _, rfl⟩
  obtain ⟨e, hb⟩ := e
  rw [hb]
  refine Good.on ?_
  refine Good.ifB (fun h => ?_) (fun h => ?_) <;> refine Good.on ?_
  · exact Good.ret1 Try.results3 (Res.tmp rfl) ⟨rfl, rfl⟩ (fun _ h => h)
  have he : e = 0 := by simpa using h
  subst he
  have hsl : s.length ≤ 20 * 65560 := by
    have := buildN_len l []
    rw [show buildN [] l = (s, 0) from hb] at this
    simp only [List.length_nil] at this
    omega
  obtain ⟨t, h1, hok, hparse⟩ := buildN_ok l [] s hr hb
  rw [List.nil_append] at h1
  subst h1
  refine Good.call0 (logParse_spec more (by omega)) ck7 ?_
  rintro v3 L ⟨va, rfl, rfl⟩
  refine Good.on ?_
  refine Good.val (Yv.concat (a := s) (b := more) rfl rfl rfl (by omega)) ?_
  refine Good.on ?_
  refine Good.call0 (logParse_spec (s ++ more) (by rw [List.length_append]; omega)) ck7 ?_
  rintro v4 L ⟨vb, rfl, rfl⟩
  rw [hparse more]
  refine Good.on ?_
  refine Good.partB (fun h => ?_) (fun h => ?_)
  · simp at h
  refine Good.on ?_
  have hpl := parseL_len more
  refine Good.partB (fun h => ?_) (fun h => ?_)
  · rw [str_size] at h
    dsimp only at h
    rw [w64 _ (by omega)] at h
    simp at h
  refine Good.on ?_
  refine Good.op rfl (OpW.lit rfl rfl rfl fun g => ?_)
  refine Good.mem (l' := [slc 27 3 (.slice (some ⟨g, 0, none⟩) 0 0) [], slc 27 3 vb (recCells (l ++ (parseL more).1)), slc 27 3 va (recCells (parseL more).1)]) (fun w h => Sat.rowSlc rfl (by unfold maxLen; omega) h) ?_
  refine Good.on ?_
  refine Good.op rfl (OpW.appendRd 0 (news := recCells l) (m := l.length) rfl rfl rfl rfl rfl rfl rfl rfl rfl rfl rfl (recCells_length l) (recCells_one l) rfl rfl ?_ (fun w h => rd.at h) rfl fun v5 => ?_)
  · rw [recCells_length]; simp [ti27]; omega
  refine Good.on ?_
  refine Good.op rfl (OpW.appendRd 0 (news := recCells (parseL more).1) (m := (parseL more).1.length) rfl rfl rfl rfl rfl rfl rfl rfl rfl rfl rfl (recCells_length _) (recCells_one _) rfl rfl ?_ (fun w h => h.slcRd 2 rfl (by decide) (recCells_length _)) rfl fun v6 => ?_)
  · rw [List.length_append, recCells_length, recCells_length]; simp [ti27]; omega
  refine Good.on ?_
  refine Good.callR (same_spec vb v6 (l ++ (parseL more).1) (l ++ (parseL more).1) (by rw [List.length_append]; omega) (by rw [List.length_append]; omega)) ck8 (fun w h => ⟨Rd.nil (h.slcRd 1 rfl (by decide) (recCells_length _)), Rd.nil (h.slcRd 0 (e := 27) (xs := recCells (l ++ (parseL more).1)) ?_ (by decide) (recCells_length _))⟩) ?_
  · rw [recCells_append]; rfl
  rintro v7 L ⟨rfl, rfl⟩
  refine Good.on ?_
  refine Good.ifB (fun h => ?_) (fun h => ?_)
  · simp at h
  refine Good.on ?_
  have hok' : ∀ (i : Nat) (h : i < l.length), (l[i]).ok ∧ (encode l[i]).2 = 0 ∧ (l[i]).text.length ≤ 100 := fun i h => ⟨hr _ (List.getElem_mem h), hok _ (List.getElem_mem h), ht _ (List.getElem_mem h)⟩
  refine Good.loop (ι := Nat) (fun i => [(0, .v (.slice a l.length c)), (99, .v (.slice a l.length c)), (100, .v (.int .i64 l.length)), (101, .v (.int .i64 (i : Int)))]) (fun _ => [])
    (fun i => i ≤ l.length) (fun i => l.length - i) 0 (by simp) ⟨rfl, rfl, rfl, rfl, trivial⟩ (fun _ h => h.tail.tail.tail) ?_
  intro i hi
  refine Good.on ?_
  refine Good.ifD (fun h => ?_) (fun h => ?_) <;> refine Good.on ?_
  rotate_left
  · exact Good.ret1 Try.results3 (Res.tmp rfl) ⟨rfl, rfl⟩ (fun _ h => h)
  have hi' : i < l.length := by omega
  have hri : l[i]? = some l[i] := List.getElem?_eq_getElem hi'
  obtain ⟨g0, off, rfl, hc⟩ := rd.pos (by rw [recCells_length]; omega)
  refine Good.val (Yv.indexAddr rfl rfl rfl rfl rfl rfl (by omega) (by omega)) ?_
  refine Good.on ?_
  refine Good.loadRd l[i].cells (fun w h j v hj => ?_) ?_
  · have := hc _ w h _ _ (recCells_get l i _ hri j v hj)
    rw [← Nat.add_assoc] at this; exact this
  refine Good.on ?_
  refine Good.alloc (fun g1 => ?_)
  refine Good.on ?_
  refine Good.store 0 ?_
  refine Good.on ?_
  refine Good.loop (ι := Nat) (fun j => [(0, .v (.slice (some ⟨g0, off, none⟩) l.length c)), (99, .v (.slice (some ⟨g0, off, none⟩) l.length c)), (100, .v (.int .i64 l.length)), (101, .v (.int .i64 (i : Int))), (18, .v (.pointer (some ⟨g1, 0, none⟩))), (105, .v (.slice (some ⟨g0, off, none⟩) l.length c)), (106, .v (.int .i64 l.length)), (107, .v (.int .i64 (j : Int)))]) (fun _ => [HP.row g1 l[i].cells 27])
    (fun j => j ≤ l.length) (fun j => l.length - j) 0 (by simp) ⟨rfl, rfl, rfl, rfl, rfl, rfl, rfl, rfl, trivial⟩ (fun _ h => h) ?_
  intro j hj
  refine Good.on ?_
  refine Good.ifD (fun h => ?_) (fun h => ?_) <;> refine Good.on ?_
  rotate_left
  · refine Good.again (i + 1) ⟨by omega, by omega⟩ ⟨rfl, rfl, rfl, ?_, trivial⟩ (fun _ h => h.tail)
    show some (Value.int .i64 _) = _
    rw [w64 _ (by omega)]; rfl
  have hj' : j < l.length := by omega
  have hrj : l[j]? = some l[j] := List.getElem?_eq_getElem hj'
  refine Good.val (Yv.indexAddr rfl rfl rfl rfl rfl rfl (by omega) (by omega)) ?_
  refine Good.on ?_
  refine Good.loadRd l[j].cells (fun w h k v hj => ?_) ?_
  · have := hc _ w h _ _ (recCells_get l j _ hrj k v hj)
    rw [← Nat.add_assoc] at this; exact this
  refine Good.on ?_
  refine Good.alloc (fun g2 => ?_)
  refine Good.on ?_
  refine Good.store 0 ?_
  refine Good.on ?_
  refine Good.loadRow 1 ?_
  refine Good.on ?_
  refine Good.call0 (frameEncode_spec l[i] (hok' i hi').1 (by have := (hok' i hi').2.2; omega)) ck5 ?_
  rintro v8 L ⟨rfl, rfl⟩
  refine Good.on ?_
  refine Good.loadRow 0 ?_
  refine Good.on ?_
  refine Good.call0 (frameEncode_spec l[j] (hok' j hj').1 (by have := (hok' j hj').2.2; omega)) ck5 ?_
  rintro v9 L ⟨rfl, rfl⟩
  refine Good.on ?_
  refine Good.val (Yv.min2 rfl rfl rfl) ?_
  rw [show (if ((str (encode l[j]).1).size : Int) < ((str (encode l[i]).1).size : Int) then ((str (encode l[j]).1).size : Int) else ((str (encode l[i]).1).size : Int)) = ((min (encode l[i]).1.length (encode l[j]).1.length : Nat) : Int) from by
    rw [str_size, str_size]; split <;> omega]
  refine Good.on ?_
  refine Good.drawn ?_
  refine Good.hold (fun w => (∀ k v, l[i].cells[k]? = some v → w.cell? ⟨g1, 0 + k, none⟩ = some v) ∧ (∀ k v, l[j].cells[k]? = some v → w.cell? ⟨g2, 0 + k, none⟩ = some v)) (fun w h => ⟨fun k v hk => h.cell 1 rfl (by rw [Nat.zero_add]; exact hk), fun k v hk => h.cell 0 rfl (by rw [Nat.zero_add]; exact hk)⟩) ?_
  refine Good.dval 2 rfl (Yv.sliceStr 0 (min (encode l[i]).1.length (encode l[j]).1.length) rfl rfl rfl rfl rfl rfl rfl ⟨_, rfl⟩ (by omega) (by omega)) ?_
  refine Good.dval 5 rfl (Yv.sliceStr 0 (min (encode l[i]).1.length (encode l[j]).1.length) rfl rfl rfl rfl rfl rfl rfl ⟨_, rfl⟩ (by omega) (by omega)) ?_
  refine Good.dloadRow 7 l[i].cells rfl (fun w h => h.1) ?_
  refine Good.dloadRow 8 l[j].cells rfl (fun w h => h.2) ?_
  refine Good.drawn ?_
  refine Good.dval 9 rfl (Yv.recEql (a := l[i]) (b := l[j]) rfl rfl rfl) ?_
  refine Good.dval 10 rfl (Yv.boolNe rfl rfl rfl rfl rfl) ?_
  refine Good.dend ?_
  refine Good.on ?_
  have hap := encB_apart l[i] l[j] (hok' i hi').1 (hok' j hj').1 (hok' i hi').2.1 (hok' j hj').2.1
  refine Good.ifB (fun h => ?_) (fun h => ?_)
  · rw [str_toList, str_toList, List.drop_zero, List.drop_zero] at h
    have heq : (List.take (min (encode l[i]).1.length (encode l[j]).1.length) (encode l[i]).1 == List.take (min (encode l[i]).1.length (encode l[j]).1.length) (encode l[j]).1) = decide (l[i] = l[j]) := by
      rw [Bool.eq_iff_iff, beq_iff_eq, decide_eq_true_iff]; exact hap
    rw [heq] at h
    simp at h
  refine Good.on ?_
  refine Good.again (j + 1) ⟨by omega, by omega⟩ ⟨rfl, rfl, rfl, rfl, rfl, rfl, rfl, ?_, trivial⟩ (fun _ h => h.tail)
  show some (Value.int .i64 _) = _
  rw [w64 _ (by omega)]; rfl
end Go.Proofs.Ytibeiamihdbahab
