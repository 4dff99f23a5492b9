/- strings.Split at one byte. -/
import Derived.Test.YtnfcbpgckomdfaaDoorPrint
import Derived.Test.YtnfcbpgckomdfaaDoorPiece
namespace Go.Proofs.YtnfcbpgckomdfaaDoor
open Go.Lib (strCells)
/-- A text's parts between the bytes c. -/
def splitL (c : UInt8) : List UInt8 → List (List UInt8)
  | [] => [[]]
  | b :: bs => if b = c then [] :: splitL c bs else match splitL c bs with
    | [] => [[b]]
    | p :: ps => (b :: p) :: ps
theorem splitL_length (c : UInt8) : ∀ bs, (splitL c bs).length = Lib.countByte bs c + 1
  | [] => rfl
  | b :: bs => by
    have ih := splitL_length c bs
    unfold splitL Lib.countByte
    rw [List.count_cons]
    unfold Lib.countByte at ih
    split
    · rename_i h; simp [h, ih]
    · rename_i h
      have hb : (b == c) = false := by simpa using h
      rw [hb]
      split
      · rename_i h0; rw [h0] at ih; simp at ih
      · rename_i p ps h0; rw [h0] at ih; simp at ih ⊢; exact ih
theorem splitL_none (c : UInt8) : ∀ bs, Lib.indexByte bs c < 0 → splitL c bs = [bs]
  | [], _ => rfl
  | b :: bs, h => by
    unfold Lib.indexByte at h
    split at h
    · omega
    · rename_i hb
      have hne : b ≠ c := by simpa using hb
      split at h
      · rename_i hn
        have hn' : Lib.indexByte bs c = -1 := by simpa using hn
        rw [splitL, if_neg hne, splitL_none c bs (by omega)]
      · rename_i hn
        have hn' : Lib.indexByte bs c ≠ -1 := by simpa using hn
        have := Lib.indexByte_ge bs c
        omega
theorem splitL_at (c : UInt8) : ∀ bs (m : Nat), Lib.indexByte bs c = (m : Int) → splitL c bs = bs.take m :: splitL c (bs.drop (m + 1))
  | [], m, h => by simp [Lib.indexByte] at h
  | b :: bs, m, h => by
    unfold Lib.indexByte at h
    split at h
    · rename_i hb
      have he : b = c := by simpa using hb
      obtain rfl : m = 0 := by omega
      rw [splitL, if_pos he]; rfl
    · rename_i hb
      have hne : b ≠ c := by simpa using hb
      split at h
      · omega
      · rename_i hn
        have hn' : Lib.indexByte bs c ≠ -1 := by simpa using hn
        have := Lib.indexByte_ge bs c
        obtain ⟨k, rfl⟩ : ∃ k, m = k + 1 := ⟨m - 1, by omega⟩
        rw [splitL, if_neg hne, splitL_at c bs k (by omega)]
        rfl
theorem count_none (c : UInt8) (bs : List UInt8) (h : Lib.countByte bs c = 0) : splitL c bs = [bs] := by
  induction bs with
  | nil => rfl
  | cons b bs ih =>
    unfold Lib.countByte at h ih
    rw [List.count_cons] at h
    have hb : ¬ (b == c) = true := by intro e; rw [if_pos e] at h; exact absurd h (Nat.succ_ne_zero _)
    rw [if_neg hb, Nat.add_zero] at h
    rw [splitL, if_neg (by simpa using hb), ih h]
theorem count_at (c : UInt8) (bs : List UInt8) (m : Nat) (h : Lib.indexByte bs c = (m : Int)) : Lib.countByte bs c = Lib.countByte (bs.drop (m + 1)) c + 1 := by
  have h1 := splitL_length c bs
  rw [splitL_at c bs m h, List.length_cons, splitL_length] at h1
  omega
def strC (l : List (List UInt8)) : List Value := l.map fun s => .string (str s)
set_option maxHeartbeats 1600000
set_option maxRecDepth 20000
theorem count_spec (bs : List UInt8) (c : UInt8) : Spec Tryd.prog 85 #[.string (str bs), .string (str [c])] noFacts [] fun r L => r = .int .i64 (Lib.countByte bs c : Nat) ∧ L = [] := by
  refine Spec.go (vs := [_, _]) (hT := tyOk) (hm := mixed0) Tryd.func85 rfl Tryd.ntmps85 rfl ?_
  intro W p _
  refine Good.on ?_
  rw [show (((str [c]).size : Nat) : Int) = 1 from rfl]
  (refine Good.ifB (fun h => ?_) (fun h => ?_); exact absurd h (by decide))
  refine Good.on ?_
  rw [show (((str [c]).size : Nat) : Int) = 1 from rfl]
  (refine Good.ifB (fun h => ?_) (fun h => ?_); rotate_left; exact absurd h (by decide))
  refine Good.on ?_
  refine Good.val (Yv.index (bs := [c]) (n := 0) (b := c) rfl rfl rfl rfl rfl (by decide) rfl) ?_
  refine Good.on ?_
  refine Good.val (Yv.extern (ext := Extern.BytealgCount.count) (v := .int .i64 (Lib.countByte bs c : Nat)) Tryd.func107 (by kernel_rfl) (by kernel_rfl) (by kernel_rfl) (by kernel_rfl) rfl rfl (fun w => ?_)) ?_
  · have := Lib.run_countString (P := Tryd.prog) (str bs) (c.toNat : Int) w
    rw [str_data] at this
    simp only [Int.toNat_natCast, Nat.toUInt8_eq, UInt8.ofNat_toNat] at this
    exact this
  refine Good.on ?_
  refine Good.ret1 Tryd.results85 (Res.tmp rfl) ⟨rfl, rfl⟩ (fun _ h => h.clear)
theorem iIndex_spec (bs : List UInt8) (c : UInt8) : Spec Tryd.prog 108 #[.string (str bs), .string (str [c])] noFacts [] fun r L => r = .int .i64 (Lib.indexByte bs c) ∧ L = [] := by
  refine Spec.go (vs := [_, _]) (hT := tyOk) (hm := mixed0) Tryd.func108 rfl Tryd.ntmps108 rfl ?_
  intro W p _
  refine Good.on ?_
  rw [show (((str [c]).size : Nat) : Int) = 1 from rfl]
  (refine Good.partB (fun h => ?_) (fun h => ?_); exact absurd h (by decide))
  refine Good.on ?_
  refine Good.ifB (fun h => ?_) (fun h => ?_) <;> refine Good.on ?_
  · have hb : [c] = bs := by simpa [str_toList] using h
    subst hb
    refine Good.ret1 Tryd.results108 (Res.tmp rfl) ⟨by simp [Lib.indexByte], rfl⟩ (fun _ h => h.clear)
  (refine Good.ifB (fun h => ?_) (fun h => ?_); rotate_left; exact absurd h (by decide))
  refine Good.on ?_
  refine Good.val (Yv.index (bs := [c]) (n := 0) (b := c) rfl rfl rfl rfl rfl (by decide) rfl) ?_
  refine Good.on ?_
  refine Good.callP [] (iIndexByte_spec bs c) ck125 ?_
  rintro r L ⟨rfl, rfl⟩
  refine Good.on ?_
  refine Good.ret1 Tryd.results108 (Res.tmp rfl) ⟨rfl, rfl⟩ (fun _ h => h.clear)
theorem index_spec (bs : List UInt8) (c : UInt8) : Spec Tryd.prog 86 #[.string (str bs), .string (str [c])] noFacts [] fun r L => r = .int .i64 (Lib.indexByte bs c) ∧ L = [] := by
  refine Spec.go (vs := [_, _]) (hT := tyOk) (hm := mixed0) Tryd.func86 rfl Tryd.ntmps86 rfl ?_
  intro W p _
  refine Good.on ?_
  refine Good.callP [] (iIndex_spec bs c) ck108 ?_
  rintro r L ⟨rfl, rfl⟩
  refine Good.on ?_
  refine Good.ret1 Tryd.results86 (Res.tmp rfl) ⟨rfl, rfl⟩ (fun _ h => h.clear)
theorem zeroL_str (n : Nat) : zeroL [Value.string (str [])] n = List.replicate n (Value.string (str [])) := by
  induction n with
  | zero => rfl
  | succ n ih => rw [zeroL, ih, List.replicate_succ]; rfl
theorem strC_set (done : List (List UInt8)) (p : List UInt8) (k : Nat) : listSet (strC done ++ List.replicate (k + 1) (Value.string (str []))) done.length [Value.string (str p)] = some (strC (done ++ [p]) ++ List.replicate k (Value.string (str []))) := by
  rw [List.replicate_succ, listSet_at _ _ _ _ _ (by simp [strC])]; simp [strC]
theorem countByte_le (bs : List UInt8) (c : UInt8) : Lib.countByte bs c ≤ bs.length := List.count_le_length
/-- How it stands in the middle: what is done, and the rest. -/
structure SplitAt (c : UInt8) (bs : List UInt8) (done : List (List UInt8)) (rest : List UInt8) : Prop where
  all : splitL c bs = done ++ splitL c rest
  len : done.length + Lib.countByte rest c = Lib.countByte bs c
  le : rest.length ≤ bs.length
theorem genSplit_spec (bs : List UInt8) (c : UInt8) (hl : bs.length ≤ 1000000000) : Spec Tryd.prog 57 #[.string (str bs), .string (str [c]), .int .i64 0, .int .i64 (-1)] noFacts [] fun r L => L = [slc 9 1 r (strC (splitL c bs))] := by
  refine Spec.go (vs := [_, _, _, _]) (hT := tyOk) (hm := mixed0) Tryd.func57 rfl Tryd.ntmps57 rfl ?_
  intro W p _
  refine Good.on ?_
  (refine Good.ifB (fun h => ?_) (fun h => ?_); exact absurd h (by decide))
  refine Good.on ?_
  refine Good.ifB (fun h => ?_) (fun h => ?_) <;> refine Good.on ?_
  · rw [str_toList] at h
    rw [show (ByteArray.mk #[]).toList = [] from str_toList []] at h
    simp at h
  (refine Good.ifB (fun h => ?_) (fun h => ?_); rotate_left; exact absurd h (by decide))
  refine Good.on ?_
  have hcl := countByte_le bs c
  refine Good.callP [] (count_spec bs c) ck85 ?_
  rintro r L ⟨rfl, rfl⟩
  refine Good.on ?_
  refine Good.val (Yv.min2 rfl rfl rfl) ?_
  have e1 : IntKind.i64.wrap ((Lib.countByte bs c : Nat) + 1) = ((Lib.countByte bs c + 1 : Nat) : Int) := by rw [w64 _ (by omega)]; rfl
  have e2 : IntKind.i64.wrap ((bs.length : Nat) + 1) = ((bs.length + 1 : Nat) : Int) := by rw [w64 _ (by omega)]; rfl
  rw [str_size, e1, e2, if_neg (by omega)]
  refine Good.on ?_
  refine Good.make (n := Lib.countByte bs c + 1) (ie := ti9) (by simp [ti9]; omega) (by omega) (fun g => ?_)
  refine Good.on ?_
  have e3 : IntKind.i64.wrap (((Lib.countByte bs c + 1 : Nat) : Int) - 1) = ((Lib.countByte bs c : Nat) : Int) := by rw [w64 _ (by omega)]; omega
  rw [e3]
  refine Good.mem (l' := [HP.row g (strC [] ++ List.replicate (Lib.countByte bs c + 1) (Value.string (str []))) 9]) (fun w h => by have e := zeroL_str (Lib.countByte bs c + 1); rw [← e]; exact h) ?_
  generalize hn : Lib.countByte bs c = n at *
  refine Good.loop (ι := List (List UInt8) × List UInt8) (fun x => [(0, .v (.string (str x.2))), (1, .v (.string (str [c]))), (2, .v (.int .i64 0)), (3, .v (.int .i64 (n : Int))), (9, .v (.slice (some ⟨g, 0, none⟩) (n + 1) (n + 1))), (10, .v (.int .i64 (x.1.length : Int)))])
    (fun x => [HP.row g (strC x.1 ++ List.replicate (n + 1 - x.1.length) (Value.string (str []))) 9]) (fun x => splitL c bs = x.1 ++ splitL c x.2 ∧ x.1.length + Lib.countByte x.2 c = n ∧ x.2.length ≤ bs.length) (fun x => n - x.1.length) ([], bs) ⟨rfl, by simpa using hn, Nat.le_refl _⟩ ⟨rfl, rfl, rfl, rfl, rfl, rfl, trivial⟩ (fun _ h => h) ?_
  rintro ⟨done, rest⟩ ⟨h1, h2, h3⟩
  dsimp only at h1 h2 h3 ⊢
  obtain ⟨k, hk⟩ : ∃ k, n + 1 - done.length = k + 1 := ⟨n - done.length, by omega⟩
  rw [hk]
  refine Good.on ?_
  refine Good.ifD (fun h => ?_) (fun h => ?_) <;> refine Good.on ?_
  · refine Good.callP [] (index_spec rest c) ck86 ?_
    rintro r L ⟨rfl, rfl⟩
    refine Good.on ?_
    refine Good.ifD (fun hm => ?_) (fun hm => ?_) <;> refine Good.on ?_
    · have e1 := splitL_none c rest hm
      have e2 := splitL_length c rest
      rw [e1] at e2
      simp at e2
      omega
    · obtain ⟨m, hm'⟩ := Int.eq_ofNat_of_zero_le (Int.not_lt.1 hm)
      rw [hm']
      have hlt := indexByte_lt rest c
      have e0 : IntKind.i64.wrap ((m : Int) + 0) = (m : Int) := by rw [w64 _ (by omega)]; omega
      have e1 : IntKind.i64.wrap ((m : Int) + ((str [c]).size : Nat)) = ((m + 1 : Nat) : Int) := by rw [show (((str [c]).size : Nat) : Int) = 1 from rfl, w64 _ (by omega)]; rfl
      have e2 : IntKind.i64.wrap (((done.length : Nat) : Int) + 1) = ((done.length + 1 : Nat) : Int) := by rw [w64 _ (by omega)]; rfl
      rw [e0]
      refine Good.val (Yv.sliceStr 0 m rfl rfl rfl rfl rfl rfl rfl ⟨_, rfl⟩ (by omega) (by omega)) ?_
      refine Good.on ?_
      refine Good.val (Yv.indexAddr rfl rfl rfl rfl rfl rfl (by omega) (by omega)) ?_
      rw [show ((done.length : Int)).toNat * ti9.size = done.length from by simp [ti9], Nat.zero_add]
      refine Good.on ?_
      refine Good.store 0 ?_ (hs := strC_set done _ k)
      refine Good.on ?_
      rw [e1]
      refine Good.val (Yv.sliceStr (m + 1) rest.length rfl rfl rfl rfl rfl rfl ⟨_, rfl⟩ rfl (by omega) (by omega)) ?_
      refine Good.on ?_
      rw [e2]
      refine Good.again (done ++ [rest.take m], (rest.take rest.length).drop (m + 1)) ⟨⟨?_, ?_, ?_⟩, ?_⟩ ⟨rfl, rfl, rfl, rfl, rfl, ?_, trivial⟩ (fun w h => ?_)
      · dsimp only; rw [h1, splitL_at c rest m hm', List.take_length, List.append_assoc]; rfl
      · dsimp only; rw [List.length_append, List.take_length, ← h2, count_at c rest m hm']; simp; omega
      · dsimp only; simp; omega
      · dsimp only; simp; omega
      · show some (Value.int .i64 _) = _
        simp [Ent.val]
      · dsimp only
        rw [show n + 1 - (done ++ [List.take m rest]).length = k from by simp; omega]
        exact h
  · have hd : done.length = n := by omega
    obtain rfl : k = 0 := by omega
    have e1 := count_none c rest (by omega)
    have e2 : IntKind.i64.wrap (((done.length : Nat) : Int) + 1) = ((done.length + 1 : Nat) : Int) := by rw [w64 _ (by omega)]; rfl
    refine Good.val (Yv.indexAddr rfl rfl rfl rfl rfl rfl (by omega) (by omega)) ?_
    rw [show ((done.length : Int)).toNat * ti9.size = done.length from by simp [ti9], Nat.zero_add]
    refine Good.on ?_
    refine Good.store 0 ?_ (hs := strC_set done _ 0)
    refine Good.on ?_
    rw [e2]
    refine Good.val (Yv.sliceSlc 0 (done.length + 1) rfl rfl rfl rfl rfl rfl rfl rfl ⟨_, rfl⟩ (by omega) (by omega)) ?_
    refine Good.on ?_
    rw [if_neg (by omega), Nat.sub_zero, Nat.sub_zero, addr_add, show 0 + 0 * ti9.size = 0 from rfl]
    refine Good.ret1 Tryd.results57 (Res.tmp rfl) (L := [slc 9 1 (.slice (some ⟨g, 0, none⟩) (done.length + 1) (n + 1)) (strC (done ++ [rest]))]) ?_ (fun w h => ?_)
    · rw [h1, e1]
    · refine Sat.slcShut (rest := []) (by simp [strC]) (by omega) (by unfold maxLen; omega) (by simp [strC]; omega) ?_
      simpa using h
theorem split_spec (bs : List UInt8) (c : UInt8) (hl : bs.length ≤ 1000000000) : Spec Tryd.prog 16 #[.string (str bs), .string (str [c])] noFacts [] fun r L => L = [slc 9 1 r (strC (splitL c bs))] := by
  refine Spec.go (vs := [_, _]) (hT := tyOk) (hm := mixed0) Tryd.func16 rfl Tryd.ntmps16 rfl ?_
  intro W p _
  refine Good.on ?_
  refine Good.callP [] (genSplit_spec bs c hl) ck57 ?_
  rintro r L rfl
  refine Good.on ?_
  refine Good.ret1 Tryd.results16 (Res.tmp rfl) rfl (fun _ h => h)
end Go.Proofs.YtnfcbpgckomdfaaDoor
