/- Package config: lines. -/
import Derived.Test.YtnfcbpgckomdfaaDoorRule
import Derived.Test.YtnfcbpgckomdfaaDoorAppG
namespace Go.Proofs.YtnfcbpgckomdfaaDoor
open Go.Lib (strCells)
theorem Stays.at {F : World → Hl → Prop} (st : Stays F) {W w : World} {p : Hl} {l : List HP} (h : F W p) (s : Sat W p l w) : F w Hl.nil := by
  obtain ⟨k, b, le, u⟩ := s
  exact st W w p Hl.nil k h (by rw [Hl.nil_un]; exact u)
section
variable {C : Cx} {Q0 : Exit → Act → World → Prop} {K : List Fr} {tm : Tm} {l : List HP} {ops : Array Oper} {o : Oper} {os : List Oper} {d : Tmp}
/-- An array value. -/
def buildAE (T : Ty) (tm : Tm) (t : TypeId) (ps : List (Nat × Operand)) : Option (List Value) := match T.get t with
  | none => none
  | some i => match arrE i.desc with
    | none => none
    | some (_, e) => match T.get e with
      | none => none
      | some j => match cellsL i.zero with
        | none => none
        | some z => fillE (fun i => some (i * j.size, j.size)) tm z ps
theorem Yv.buildA {t : TypeId} {ps : List (Nat × Operand)} {r : List Value} (ho : o.op = .build t ps.toArray) (h : buildAE C.T tm t ps = some r) : Yv C tm o (.agg r.toArray) := fun a hA w => by
  unfold buildAE at h
  split at h <;> try (cases h; done)
  rename_i i hi
  split at h <;> try (cases h; done)
  rename_i n e he
  split at h <;> try (cases h; done)
  rename_i j hj
  split at h <;> try (cases h; done)
  rename_i z hz
  have hu := C.ok.under hi w
  rw [arrE_ok he] at hu
  have hs := C.ok.sizeOf hj w
  have hf := fillE_ok hA h
  have hzc : i.zero.cells = z.toArray := by rw [← cellsL_ok hz]
  unfold execOp
  simp only [ho, Instr.build, Sem.run_bind, C.ok.zeroOf hi w, Result.andThen_ok, hu, hs, Sem.run_pure, hzc]
  have hl : (Array.map (fun x : Nat × Operand => match x with | (i, x) => (i, a.eval x)) ps.toArray).toList = ps.map fun (i, x) => (i, a.eval x) := by simp
  rw [hl]
  simp only [Sem.run_pure, Result.andThen_ok, hf]
theorem Good.buildA {t : TypeId} {ps : List (Nat × Operand)} {r : List Value} (kk : Good C Q0 (.ops ops os) K ((d, .v (.agg r.toArray)) :: tm) l) (hg : guardE (dsts ops) tm o.guard = some true := by rfl) (hdst : o.dst = some d := by rfl) (hlt : Nat.blt d C.n = true := by rfl) (ho : o.op = .build t ps.toArray := by rfl) (h : buildAE C.T tm t ps = some r := by rfl) : Good C Q0 (.ops ops (o :: os)) K tm l :=
  Good.val (Yv.buildA ho h) kk hg hdst hlt
/-- x[i] of an array value of plain elements. -/
theorem Yv.indexAgg {t : TypeId} {x y : Operand} {i j : TI} {len : Nat} {e : TypeId} {cs : Array Value} {k : IntKind} {n : Int} {v : Value} (ho : o.op = .index t x y) (hi : C.T.get t = some i) (he : arrE i.desc = some (len, e)) (hj : C.T.get e = some j) (h1 : j.size = 1) (hp : C.P.plainKey e = true)
    (hx : opd tm x = some (.v (.agg cs))) (hy : opd tm y = some (.v (.int k n))) (h0 : 0 ≤ n) (hn : n < len) (hv : cs[n.toNat]? = some v) : Yv C tm o v := fun a hA w => by
  have hu := C.ok.under hi w
  rw [arrE_ok he] at hu
  have hz := C.ok.sizeOf hj w
  rw [h1] at hz
  have hx' : a.eval x = .agg cs := hA.eval hx
  have hy' : a.eval y = .int k n := hA.eval hy
  have h2 : 0 ≤ n ∧ n < (len : Int) := ⟨h0, hn⟩
  unfold execOp
  simp only [ho, hx', hy', Instr.index, asIntOf, Sem.run_bind, Sem.run_pure, Result.andThen_ok, hu, if_pos h2, hz, Nat.mul_one, run_part_plain w hp hv]
end
def intsC (ns : List Int) : List Value := ns.map (Value.int .i64)
/-- A word and numbers behind it. -/
def numsL (ns : List Int) : List UInt8 := ns.flatMap fun n => 32 :: itoaL n
def lineL (word : List UInt8) (ns : List Int) : List UInt8 := word ++ numsL ns ++ [10]
theorem numsL_len : ∀ (ns : List Int), (∀ n ∈ ns, I64 n) → (numsL ns).length ≤ ns.length * 21
  | [], _ => by simp [numsL]
  | n :: ns, h => by
    have h1 := itoaL_len (h n (by simp))
    have h2 := numsL_len ns (fun m hm => h m (by simp [hm]))
    simp only [numsL, List.flatMap_cons, List.length_append, List.length_cons] at h2 ⊢
    omega
theorem numsL_take (ns : List Int) (i : Nat) (hi : i < ns.length) : numsL (ns.take (i + 1)) = numsL (ns.take i) ++ (32 :: itoaL ns[i]) := by
  unfold numsL; rw [List.take_succ_eq_append_getElem hi, List.flatMap_append]; simp only [List.flatMap_cons, List.flatMap_nil, List.append_nil]
set_option maxHeartbeats 1600000
set_option maxRecDepth 20000
def namesV : Value := .agg #[.string (str boundedL), .string (str markedL), .string (str percentL)]
theorem names_spec : Spec Tryd.prog 52 #[] noFacts [] fun x L => x = namesV ∧ L = [] := by
  refine Spec.go (vs := []) (hT := tyOk) (hm := mixed0) Tryd.func52 rfl Tryd.ntmps52 rfl ?_
  intro W p _
  refine Good.on ?_
  refine Good.alloc (fun g => ?_)
  refine Good.on ?_
  refine Good.buildA ?_
  refine Good.on ?_
  refine Good.store 0 ?_
  refine Good.on ?_
  refine Good.ret1 Tryd.results52 (Res.row 0) ⟨rfl, rfl⟩ (fun _ h => h.clear)
theorem line_spec (word : List UInt8) (v : Value) (ns : List Int) (hw : word.length ≤ 1000) (hn : ns.length ≤ 1000) (hr : ∀ n ∈ ns, I64 n) : Spec Tryd.prog 53 #[.string (str word), v] (fun W p => Env W p ∧ Rd v ns.length (intsC ns) W p) [] fun x L => x = .string (str (lineL word ns)) ∧ L = [] := by
  refine Spec.go (vs := [_, _]) (hT := tyOk) (hm := mixed0) Tryd.func53 rfl Tryd.ntmps53 rfl ?_
  rintro W p ⟨hE, rd⟩
  obtain ⟨a, c, rfl⟩ := rd.is
  refine Good.on ?_
  refine Good.loop (ι := Nat × List UInt8) (fun x => [(0, .v (.string (str x.2))), (7, .v (.slice a ns.length c)), (8, .v (.int .i64 ns.length)), (9, .v (.int .i64 (x.1 : Int)))]) (fun _ => [])
    (fun x => x.1 ≤ ns.length ∧ x.2 = word ++ numsL (ns.take x.1)) (fun x => ns.length - x.1) (0, word) ⟨by simp, by simp [numsL]⟩ ⟨rfl, rfl, rfl, rfl, trivial⟩ (fun _ h => h) ?_
  rintro ⟨i, acc⟩ ⟨hi, hacc⟩
  dsimp only at hi hacc ⊢
  have l2 := numsL_len (ns.take i) (fun n h => hr n (List.mem_of_mem_take h))
  have l3 : (ns.take i).length ≤ i := by simp; omega
  have l4 : acc.length = word.length + (numsL (ns.take i)).length := by rw [hacc, List.length_append]
  refine Good.on ?_
  refine Good.ifD (fun h => ?_) (fun h => ?_) <;> refine Good.on ?_
  · have hi' : i < ns.length := by omega
    obtain ⟨g, off, rfl, hc⟩ := rd.pos (by simp [intsC]; omega)
    refine Good.val (Yv.indexAddr rfl rfl rfl rfl rfl rfl (by omega) (by omega)) ?_
    refine Good.on ?_
    refine Good.loadC (v := .int .i64 ns[i]) (fun w h => ?_) ?_
    · have := hc _ w h i (.int .i64 ns[i]) (by simp [intsC, hi'])
      rw [show ((i : Int)).toNat * ti3.size = i from by simp [ti3]]; exact this
    refine Good.on ?_
    have hm := hr ns[i] (List.getElem_mem hi')
    refine Good.callK [] (itoa_spec ns[i] hm) stays_env hE ck80 ?_
    rintro r L ⟨rfl, rfl⟩
    have l1 := itoaL_len hm
    refine Good.on ?_
    refine Good.val (Yv.concat (a := [32]) rfl rfl rfl (by simp; omega)) ?_
    refine Good.on ?_
    refine Good.val (Yv.concat (b := [32] ++ itoaL ns[i]) rfl rfl rfl (by simp only [List.length_append, List.length_singleton]; omega)) ?_
    refine Good.on ?_
    refine Good.again (i + 1, acc ++ ([32] ++ itoaL ns[i])) ⟨⟨by dsimp only; omega, ?_⟩, by dsimp only; omega⟩ ⟨rfl, rfl, rfl, ?_, trivial⟩ (fun _ h => h)
    · dsimp only; rw [numsL_take ns i hi', hacc, List.append_assoc]; rfl
    · show some (Value.int .i64 _) = _
      rw [w64 _ (by omega)]; rfl
  · have hi' : i = ns.length := by omega
    subst hi'
    refine Good.val (Yv.concat (b := [10]) rfl rfl rfl (by simp only [List.length_singleton]; omega)) ?_
    refine Good.on ?_
    refine Good.ret1 Tryd.results53 (Res.tmp rfl) ⟨?_, rfl⟩ (fun _ h => h.clear)
    rw [hacc, List.take_length, lineL]
end Go.Proofs.YtnfcbpgckomdfaaDoor
