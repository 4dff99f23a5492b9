/- Package log: reading logs. -/
import Derived.Test.YtibeiamihdbahabFrameGet
namespace Go.Proofs.Ytibeiamihdbahab
def parseN : Nat → List UInt8 → List Rec × Nat × Int
  | 0, _ => ([], 0, 0)
  | k + 1, bs => if bs = [] then ([], 0, 0) else if (getR bs).2.2 ≠ 0 then ([], 0, (getR bs).2.2) else
    ((getR bs).1 :: (parseN k (bs.drop (getR bs).2.1)).1, (getR bs).2.1 + (parseN k (bs.drop (getR bs).2.1)).2.1, (parseN k (bs.drop (getR bs).2.1)).2.2)
/-- The records with which bytes begin, how many bytes they have, and the error. -/
def parseL (bs : List UInt8) : List Rec × Nat × Int := parseN (bs.length + 1) bs
theorem getR_many (bs : List UInt8) (h : (getR bs).2.2 = 0) : 6 ≤ (getR bs).2.1 ∧ (getR bs).2.1 ≤ bs.length := by
  unfold getR at h ⊢
  split
  · rename_i h1; rw [if_pos h1] at h; exact absurd h h1
  · rename_i h1
    rw [if_neg h1] at h
    split
    · rename_i h2; rw [if_pos h2] at h; simp at h
    · rename_i h2
      rw [if_neg h2] at h
      split
      · rename_i h3; rw [if_pos h3] at h; simp at h
      · rename_i h3
        rw [if_neg h3] at h
        split
        · rename_i h4; rw [h4] at h; simp at h
        · rename_i b h4
          rw [h4] at h
          simp only at h ⊢
          split
          · rename_i h5; rw [if_pos h5] at h; exact absurd h h5
          · simp only; omega
theorem parseN_fuel : ∀ (k m : Nat) (bs : List UInt8), bs.length < k → bs.length < m → parseN k bs = parseN m bs
  | 0, _, _, h, _ => by omega
  | _, 0, _, _, h => by omega
  | k + 1, m + 1, bs, h1, h2 => by
    simp only [parseN]
    split
    · rfl
    split
    · rfl
    · rename_i h3 h4
      have := getR_many bs (by simpa using h4)
      rw [parseN_fuel k m (bs.drop (getR bs).2.1) (by rw [List.length_drop]; omega) (by rw [List.length_drop]; omega)]
theorem parseL_nil : parseL [] = ([], 0, 0) := rfl
theorem parseL_bad {bs : List UInt8} (h0 : bs ≠ []) (h : (getR bs).2.2 ≠ 0) : parseL bs = ([], 0, (getR bs).2.2) := by
  rw [parseL, parseN, if_neg h0, if_pos h]
theorem parseL_good {bs : List UInt8} (h0 : bs ≠ []) (h : (getR bs).2.2 = 0) :
    parseL bs = ((getR bs).1 :: (parseL (bs.drop (getR bs).2.1)).1, (getR bs).2.1 + (parseL (bs.drop (getR bs).2.1)).2.1, (parseL (bs.drop (getR bs).2.1)).2.2) := by
  have := getR_many bs h
  rw [parseL, parseN, if_neg h0, if_neg (by simpa using h)]
  rw [parseN_fuel bs.length ((bs.drop (getR bs).2.1).length + 1) (bs.drop (getR bs).2.1) (by rw [List.length_drop]; omega) (by omega)]
  rfl
def recCells (l : List Rec) : List Value := l.flatMap Rec.cells
theorem recCells_length (l : List Rec) : (recCells l).length = l.length * 3 := by
  induction l with
  | nil => rfl
  | cons r l ih => simp [recCells, Rec.cells] at ih ⊢; omega
theorem recCells_snoc (l : List Rec) (r : Rec) : recCells (l ++ [r]) = recCells l ++ r.cells := by simp [recCells]
set_option maxHeartbeats 800000
set_option maxRecDepth 10000
theorem logParse_spec (bs : List UInt8) (hl : bs.length ≤ 1099511627776) : Spec Try.prog 7 #[.string (str bs)] noFacts [] fun x L => ∃ v, x = .tuple #[v, .int .i64 (parseL bs).2.1, .int .i64 (parseL bs).2.2] ∧ L = [slc 27 3 v (recCells (parseL bs).1)] := by
  refine Spec.go (vs := [_]) (hT := tyOk) (hm := mixed0) Try.func7 rfl Try.ntmps7 rfl ?_
  intro W p _
  refine Good.on ?_
  refine Good.loop (ι := Value × List Rec × Nat) (fun x => [(0, .v (.string (str bs))), (2, .v x.1), (3, .v (.int .i64 (x.2.2 : Int)))]) (fun x => [slc 27 3 x.1 (recCells x.2.1)])
    (fun x => x.2.2 ≤ bs.length ∧ x.2.1.length ≤ x.2.2 ∧ (x.2.1 ++ (parseL (bs.drop x.2.2)).1, x.2.2 + (parseL (bs.drop x.2.2)).2.1, (parseL (bs.drop x.2.2)).2.2) = parseL bs) (fun x => bs.length - x.2.2) (.slice none 0 0, [], 0) ⟨by simp, by simp, by simp⟩ ⟨rfl, rfl, rfl, trivial⟩ (fun _ h => Sat.slcNil _ _ h) ?_
  rintro ⟨v, rs, i⟩ ⟨hi, hn, he⟩
  dsimp only at hi hn he ⊢
  refine Good.on ?_
  rw [str_size]
  refine Good.ifD (fun h => ?_) (fun h => ?_) <;> refine Good.on ?_
  · have hi' : i < bs.length := by omega
    have hne : bs.drop i ≠ [] := by intro h0; have := congrArg List.length h0; simp at this; omega
    refine Good.val (Yv.sliceStr i bs.length rfl rfl rfl rfl rfl rfl ⟨_, rfl⟩ rfl (by omega) (by omega)) ?_
    refine Good.on ?_
    rw [List.take_length]
    refine Good.call0 (frameGet_spec (bs.drop i) (by rw [List.length_drop]; omega)) ck20 ?_
    rintro v1 L ⟨rfl, rfl⟩
    refine Good.on ?_
    refine Good.alloc (fun g => ?_)
    refine Good.on ?_
    refine Good.store 0 ?_
    refine Good.on ?_
    refine Good.ifB (fun h2 => ?_) (fun h2 => ?_) <;> refine Good.on ?_
    · have hbad : (getR (bs.drop i)).2.2 ≠ 0 := by simpa using h2
      rw [parseL_bad hne hbad] at he
      refine Good.ret3 Try.results7 (Res.tmp rfl) (Res.tmp rfl) (Res.tmp rfl) ⟨v, ?_, rfl⟩ (fun _ h => ?_)
      · rw [← he]; simp
      · have := h.tail
        rw [← he]; simpa using this
    · have hok : (getR (bs.drop i)).2.2 = 0 := by simpa using h2
      have hm := getR_many _ hok
      rw [List.length_drop] at hm
      rw [parseL_good hne hok] at he
      refine Good.loadRow 0 ?_
      refine Good.on ?_
      refine Good.push 1 (fun g' v' => ?_) ?_
      rotate_left
      · rw [recCells_length]; simp [ti27]; omega
      refine Good.on ?_
      refine Good.again (v', rs ++ [(getR (bs.drop i)).1], i + (getR (bs.drop i)).2.1) ⟨⟨by dsimp only; omega, by simp; omega, ?_⟩, by dsimp only; omega⟩ ⟨rfl, rfl, ?_, trivial⟩ (fun w h => ?_)
      · dsimp only
        rw [← he, List.drop_drop]
        simp [Nat.add_assoc]
      · show some (Value.int .i64 _) = _
        rw [w64 _ (by omega)]; simp [Ent.val]
      · rw [recCells_snoc]; exact h.tail
  · have : bs.drop i = [] := List.drop_eq_nil_of_le (by omega)
    rw [this, parseL_nil] at he
    refine Good.ret3 Try.results7 (Res.tmp rfl) (Res.tmp rfl) (Res.tmp rfl) ⟨v, ?_, rfl⟩ (fun _ h => ?_)
    · rw [← he]; simp
    · rw [← he]; simpa using h
end Go.Proofs.Ytibeiamihdbahab
