/- strconv.formatBase10: a number's digits, two by two. -/
import Derived.Test.YtnfcbpgckomdfaaDoorDec
namespace Go.Proofs.YtnfcbpgckomdfaaDoor
open Go.Lib (strCells)
/-- The two digits of a number below a hundred. -/
def d2 (v : Nat) : List UInt8 := [dig (v / 10), dig v]
def smallL : List UInt8 := (List.range 100).flatMap d2
theorem flat2 : ∀ (l : List Nat) (i v : Nat), l[i]? = some v → (l.flatMap d2)[2 * i]? = some (dig (v / 10)) ∧ (l.flatMap d2)[2 * i + 1]? = some (dig v)
  | [], i, v, h => by simp at h
  | x :: l, 0, v, h => by simp at h; subst h; simp [d2]
  | x :: l, i + 1, v, h => by
    have ih := flat2 l i v (by simpa using h)
    simp only [List.flatMap_cons]
    rw [List.getElem?_append_right (by simp [d2]; omega), List.getElem?_append_right (by simp [d2]; omega)]
    rw [show 2 * (i + 1) - (d2 x).length = 2 * i from by simp [d2]; omega, show 2 * (i + 1) + 1 - (d2 x).length = 2 * i + 1 from by simp [d2]; omega]
    exact ih
theorem small_get (v : Nat) (h : v < 100) : smallL[2 * v]? = some (dig (v / 10)) ∧ smallL[2 * v + 1]? = some (dig v) := flat2 _ v v (by simp [h])
theorem decK_two (k n : Nat) : decK (k + 2) n = decK k (n / 100) ++ d2 (n % 100) := by
  have e1 : dig (n / 10) = dig (n % 100 / 10) := by unfold dig; congr 2; omega
  have e2 : dig n = dig (n % 100) := by unfold dig; congr 2; omega
  show decK k (n / 10 / 10) ++ [dig (n / 10)] ++ [dig n] = _
  rw [e1, e2, show n / 10 / 10 = n / 100 from by omega, List.append_assoc]; rfl
theorem take_set {A rest : List Value} {m : Nat} {v : Value} (h : m < A.length) : listSet (A.take (m + 1) ++ rest) m [v] = some (A.take m ++ v :: rest) := by
  rw [List.take_succ_eq_append_getElem h, List.append_assoc]
  exact listSet_at _ _ _ _ m (by rw [List.length_take]; omega)
/-- A row whose end is filled in with digits. -/
def digR (A : List Value) (m : Nat) (ys : List UInt8) (post : List Value) : List Value := A.take m ++ (strCells (str ys) ++ post)
theorem digR_set {A post : List Value} {m : Nat} {ys : List UInt8} (b : UInt8) (h : m < A.length) : listSet (digR A (m + 1) ys post) m [Value.int .u8 b.toNat] = some (digR A m (b :: ys) post) := take_set h
set_option maxHeartbeats 1600000
set_option maxRecDepth 20000
theorem small_spec (n : Nat) (hn : n < 100) : Spec Tryd.prog 118 #[.int .i64 (n : Int)] noFacts [] fun r L => r = .string (str (decL n)) ∧ L = [] := by
  refine Spec.go (vs := [_]) (hT := tyOk) (hm := mixed0) Tryd.func118 rfl Tryd.ntmps118 rfl ?_
  intro W p _
  refine Good.on ?_
  refine Good.ifD (fun h => ?_) (fun h => ?_) <;> refine Good.on ?_
  · rw [w64 ((n : Int) + 1) (by omega)]
    refine Good.val (Yv.sliceStr (bs := [48,49,50,51,52,53,54,55,56,57,97,98,99,100,101,102,103,104,105,106,107,108,109,110,111,112,113,114,115,116,117,118,119,120,121,122]) n (n + 1) rfl rfl rfl rfl rfl rfl ⟨_, rfl⟩ ⟨.i64, by simp [Ent.val]⟩ (by omega) (by simp; omega)) ?_
    refine Good.on ?_
    refine Good.ret1 Tryd.results118 (Res.tmp rfl) ⟨?_, rfl⟩ (fun _ h => h)
    rw [decL_lt (by omega)]
    have : ∀ d : Fin 10, ((([48,49,50,51,52,53,54,55,56,57,97,98,99,100,101,102,103,104,105,106,107,108,109,110,111,112,113,114,115,116,117,118,119,120,121,122] : List UInt8).take (d.val + 1)).drop d.val) = [dig d.val] := by decide
    exact congrArg (fun l => Value.string (str l)) (this ⟨n, by omega⟩)
  · have hs := small_get n hn
    have h1 : IntKind.i64.wrap ((n : Int) * 2) = ((2 * n : Nat) : Int) := by rw [w64 _ (by omega)]; omega
    rw [h1, show IntKind.i64.wrap (((2 * n : Nat) : Int) + 2) = ((2 * n + 2 : Nat) : Int) from by rw [w64 _ (by omega)]; omega]
    have hlen : smallL.length = 200 := by decide +kernel
    refine Good.val (Yv.sliceStr (bs := smallL) (2 * n) (2 * n + 2) rfl rfl rfl (by kernel_rfl) rfl rfl ⟨_, rfl⟩ ⟨_, rfl⟩ (by omega) (by omega)) ?_
    refine Good.on ?_
    refine Good.ret1 Tryd.results118 (Res.tmp rfl) ⟨?_, rfl⟩ (fun _ h => h)
    rw [decL_ge (by omega), decL_lt (by omega)]
    have e : (smallL.take (2 * n + 2)).drop (2 * n) = [dig (n / 10), dig n] := by
      apply List.ext_getElem?
      intro i
      rw [List.getElem?_drop, List.getElem?_take]
      match i with
      | 0 => rw [if_pos (by omega)]; exact hs.1
      | 1 => rw [if_pos (by omega)]; exact hs.2
      | i + 2 => rw [if_neg (by omega)]; simp
    exact congrArg (fun l => Value.string (str l)) e
end Go.Proofs.YtnfcbpgckomdfaaDoor
