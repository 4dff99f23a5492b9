/- Texts as bytes; slices that are made; bytes copied; entries of the form's own; interface values held against each other. For all of this seat's walks. -/
import Derived.Test.YtnfcbpgckomdfaaDoorEnv
import Derived.Lib.ConvBytes
import Derived.Lib.Bytealg
import Derived.Lib.BufferWrite
namespace Go.Proofs.YtnfcbpgckomdfaaDoor
open Go.Lib (strCells)
/-- The bytes of a text, in an array of their own. -/
def rawB (e : TypeId) (g cap : Nat) (bs : List UInt8) : HP := HP.blk g (.cells (strCells (str bs) ++ List.replicate (cap - bs.length) (Value.int .u8 0)).toArray e ((strCells (str bs) ++ List.replicate (cap - bs.length) (Value.int .u8 0)).length, (strCells (str bs) ++ List.replicate (cap - bs.length) (Value.int .u8 0)).length + 1))
theorem Sat.rawCell {W w : World} {p : Hl} {l : List HP} {e : TypeId} {g cap : Nat} {bs : List UInt8} (n : Nat) (s : Sat W p l w) (hn : l[n]? = some (rawB e g cap bs)) {j : Nat} {b : UInt8} (hj : bs[j]? = some b) : w.cell? ⟨g, j, none⟩ = some (.int .u8 b.toNat) := by
  have := s.block n hn
  simp only [World.cell?, this]
  rw [List.getElem?_toArray, List.getElem?_append_left (by rw [strCells_len]; exact (List.getElem?_eq_some_iff.1 hj).1), strCells_str]
  simp [hj]
theorem Sat.rawBytes {P : Program} {W w : World} {p : Hl} {l : List HP} {e : TypeId} {g cap : Nat} {bs : List UInt8} (n : Nat) (s : Sat W p l w) (hn : l[n]? = some (rawB e g cap bs)) : BytesAt P (.slice (some ⟨g, 0, none⟩) bs.length cap) (str bs) w := by
  have hl : (loadCells ⟨g, 0, none⟩ bs.length).run P w = .ok ((bs.map fun u => (u.toNat : Int)).map (Value.int .u8)).toArray w := by
    have := run_loadCells_list (P := P) w ⟨g, 0, none⟩ ((bs.map fun u => (u.toNat : Int)).map (Value.int .u8)) (fun j v hj => by
      simp only [List.map_map, List.getElem?_map, Option.map_eq_some_iff] at hj
      obtain ⟨u, hu, rfl⟩ := hj
      rw [addr_add, Nat.zero_add]; exact s.rawCell n hn hu)
    simpa using this
  refine ⟨⟨_, _, _, rfl⟩, ?_⟩
  rw [run_bytesToString w _ _ cap _ hl]
  have fold : ∀ (ns : List Int) (s : ByteArray), ns.foldl (fun r n => r.push (UInt8.ofNat n.toNat)) s = s ++ str (ns.map fun n => UInt8.ofNat n.toNat) := by
    intro ns
    induction ns with
    | nil => intro s; apply ByteArray.ext; simp [str]
    | cons n ns ih => intro s; rw [List.foldl_cons, ih]; apply ByteArray.ext; simp [str]
  rw [fold]
  congr 2
  apply ByteArray.ext
  simp only [str, ByteArray.data_append, List.map_map]
  have : List.map ((fun n : Int => UInt8.ofNat n.toNat) ∘ fun u : UInt8 => (u.toNat : Int)) bs = bs := by
    conv => rhs; rw [← List.map_id bs]
    apply List.map_congr_left
    intro u _
    simp
  rw [this]
  simp
section
variable {C : Cx} {Q0 : Exit → Act → World → Prop} {K : List Fr} {tm : Tm} {l : List HP} {ops : Array Oper} {o : Oper} {os : List Oper} {d : Tmp} {J : Tm → List HP → Prop}
/-- []byte(s) -/
theorem Good.strBytes {t t' e : TypeId} {x : Operand} {it it' ie : TI} {bs : List UInt8} (kk : ∀ g cap, bs.length ≤ cap → Good C Q0 (.ops ops os) K ((d, .v (.slice (some ⟨g, 0, none⟩) bs.length cap)) :: tm) (rawB e g cap bs :: l)) (hg : guardE (dsts ops) tm o.guard = some true := by rfl) (hdst : o.dst = some d := by rfl) (hlt : Nat.blt d C.n = true := by rfl) (ho : o.op = .convert t t' x := by rfl)
    (hx : opd tm x = some (.v (.string (str bs))) := by rfl) (ht : C.T.get t = some it := by rfl) (ht' : C.T.get t' = some it' := by rfl) (he : elemE it'.desc = some e := by rfl) (hi : C.T.get e = some ie := by rfl) (hie : ie.desc = .int .u8 := by rfl) : Good C Q0 (.ops ops (o :: os)) K tm l :=
  Good.op hg fun Kk Q hK a w hA hS => by
    have h1 := (C.ok t it ht).under
    have h2 := (C.ok t' it' ht').under
    rw [elemE_ok he] at h2
    have h3 := (C.ok e ie hi).under
    rw [hie] at h3
    have hx' : a.eval x = .string (str bs) := hA.eval hx
    have hr := Lib.run_convert_string_bytes (P := C.P) w t t' e (str bs) h1 h2 h3
    have hge := grownCap_ge w (str bs).size 0 e
    have hrun : (execOp a.eval o).run C.P w = .ok (.value (.slice (some ⟨w.heap.size, 0, none⟩) bs.length (grownCap w (str bs).size 0 e))) (Lib.bytesWorld w e (str bs)) := by
      unfold execOp
      simp only [ho, hx', Sem.run_bind, hr, Result.andThen_ok, Sem.run_pure, str_size]
    have hcells : Lib.bytesCells w e (str bs) = (strCells (str bs) ++ List.replicate (grownCap w (str bs).size 0 e - bs.length) (Value.int .u8 0)).toArray := by
      unfold Lib.bytesCells
      rw [str_size]
      generalize grownCap w bs.length 0 e = gc
      apply Array.ext'; simp [strCells, str]
    show o.wp C.P a w Kk Q
    unfold Oper.wp
    rw [hrun]
    refine hK ((d, .v (.slice (some ⟨w.heap.size, 0, none⟩) bs.length (grownCap w (str bs).size 0 e))) :: tm) (rawB e w.heap.size (grownCap w (str bs).size 0 e) bs :: l) (kk _ _ (by simpa using hge)) _ _ (by have := hA.put (dst_some hdst hlt) (.slice (some ⟨w.heap.size, 0, none⟩) bs.length (grownCap w (str bs).size 0 e)); rwa [put_some hdst] at this) ?_
    have s1 := (hS.drewW).allocW (.cells (Lib.bytesCells w e (str bs)) e)
    have hz : (w.drew).heap.size = w.heap.size := rfl
    have hnew := Lib.bytesWorld_at_new w e (str bs)
    have s2 := s1.write 0 (g := w.heap.size) (o := .cells (Lib.bytesCells w e (str bs)) e) rfl (w' := Lib.bytesWorld w e (str bs)) (o' := .cells (Lib.bytesCells w e (str bs)) e ((Lib.bytesCells w e (str bs)).size, (Lib.bytesCells w e (str bs)).size + 1))
      (by unfold Lib.bytesWorld World.freeze; split <;> rfl) (by unfold Lib.bytesWorld World.freeze; split <;> rfl) (by unfold Lib.bytesWorld World.freeze; split <;> rfl) (by rw [Lib.bytesWorld_size]; show _ = (w.drew.heap.push _).size; rw [Array.size_push, hz]) hnew (fun b hb => by
        rcases Nat.lt_or_ge b w.heap.size with h | h
        · rw [Lib.bytesWorld_at_old w e _ b h, heap_alloc_old w.drew _ (show b < w.drew.heap.size from h)]; rfl
        · have : w.heap.size < b := by omega
          have hz2 : (w.drew.alloc (.cells (Lib.bytesCells w e (str bs)) e)).heap.size = w.heap.size + 1 := by
            show (w.drew.heap.push _).size = _
            rw [Array.size_push, hz]
          rw [Array.getElem?_eq_none (by rw [Lib.bytesWorld_size]; omega), Array.getElem?_eq_none (by rw [hz2]; omega)])
    simp only [List.set_cons_zero] at s2
    unfold rawB
    rw [hcells] at s2
    simpa using s2
/-- A load of a byte of a text's own array. -/
theorem Good.loadRaw (n : Nat) {t : TypeId} {x : Operand} {i : TI} {e : TypeId} {g cap k : Nat} {bs : List UInt8} {b : UInt8} (hj : bs[k]? = some b) (kk : Good C Q0 (.ops ops os) K ((d, .v (.int .u8 b.toNat)) :: tm) l)
    (hg : guardE (dsts ops) tm o.guard = some true := by rfl) (ho : o.op = .load t x := by rfl) (hdst : o.dst = some d := by rfl) (hlt : Nat.blt d C.n = true := by rfl) (hi : C.T.get t = some i := by rfl) (hr : isRow i.desc = false := by rfl)
    (hx : opd tm x = some (.v (.pointer (some ⟨g, k, none⟩))) := by rfl) (hn : l[n]? = some (rawB e g cap bs) := by rfl) : Good C Q0 (.ops ops (o :: os)) K tm l :=
  Good.loadC (fun _ hS => hS.rawCell n hn hj) kk hg ho hdst hlt hi hr hx
/-- make([]T, n) -/
theorem Good.make {t e : TypeId} {it ie : TI} {x y : Operand} {k k' : IntKind} {n : Nat} {z : List Value} (hb : ie.bytes * n ≤ 281474976710656) (hn63 : n ≤ 9223372036854775807) (kk : ∀ g, Good C Q0 (.ops ops os) K ((d, .v (.slice (some ⟨g, 0, none⟩) n n)) :: tm) (HP.row g (zeroL z n) e :: l))
    (hg : guardE (dsts ops) tm o.guard = some true := by rfl) (hdst : o.dst = some d := by rfl) (hlt : Nat.blt d C.n = true := by rfl) (ho : o.op = .makeSlice t x y := by rfl) (hx : opd tm x = some (.v (.int k (n : Int))) := by rfl) (hy : opd tm y = some (.v (.int k' (n : Int))) := by rfl) (ht : C.T.get t = some it := by rfl) (he : elemE it.desc = some e := by rfl) (hi : C.T.get e = some ie := by rfl) (hz : cellsL ie.zero = some z := by rfl) (hz' : Nat.beq z.length ie.size = true := by rfl) (hsz : Nat.blt 0 ie.size = true := by rfl) : Good C Q0 (.ops ops (o :: os)) K tm l :=
  Good.op hg fun Kk Q hK a w hA hS => by
    obtain ⟨j, hj, hjs, hjb, hjz⟩ := (C.ok e ie hi).info
    have hu := (C.ok t it ht).under
    rw [elemE_ok he] at hu
    have hzl := Nat.eq_of_beq_eq_true hz'
    have hzc : ie.zero.cells = z.toArray := by rw [← cellsL_ok hz]
    have hx' : a.eval x = .int k (n : Int) := hA.eval hx
    have hy' : a.eval y = .int k' (n : Int) := hA.eval hy
    have hb' : (j.bytes : Int) * (n : Int) ≤ 281474976710656 := by
      rw [hjb]
      have h : ((ie.bytes * n : Nat) : Int) ≤ 281474976710656 := by omega
      rwa [Int.natCast_mul] at h
    have hr := run_make (P := C.P) w t e j ie.zero hu hj hjz k k' n n (by omega) (Int.le_refl _) hb' (by omega)
    have hm : madeCells ie.zero.cells (n * j.size) = (zeroL z n).toArray := by
      have hs0 : 0 < z.toArray.size := by simp; rw [Nat.blt_eq] at hsz; omega
      rw [hzc, hjs, ← hzl]
      have := zero_array z.toArray n (.inl hs0)
      simpa [madeCells] using this
    have hrun : (execOp a.eval o).run C.P w = .ok (.value (.slice (some ⟨w.heap.size, 0, none⟩) n n)) (w.alloc (.cells (zeroL z n).toArray e)) := by
      unfold execOp
      simp only [ho, hx', hy', Sem.run_bind, hr, Result.andThen_ok, Sem.run_pure, Int.toNat_natCast, hm]
    show o.wp C.P a w Kk Q
    unfold Oper.wp
    rw [hrun]
    exact hK ((d, .v (.slice (some ⟨w.heap.size, 0, none⟩) n n)) :: tm) _ (kk w.heap.size) _ _ (by have := hA.put (dst_some hdst hlt) (.slice (some ⟨w.heap.size, 0, none⟩) n n); rwa [put_some hdst] at this) (hS.allocW _)
/-- copy(b, s) of a text that is no longer than b. -/
theorem Good.copyStr (m : Nat) {t u e : TypeId} {it ie : TI} {x y : Operand} {g off n c : Nat} {cs r : List Value} {bs : List UInt8} {et : TypeId} (hle : bs.length ≤ n) (hs : listSet cs off (strCells (str bs)) = some r) (kk : Good C Q0 (.ops ops os) K ((d, .v (.int .i64 bs.length)) :: tm) (l.set m (HP.row g r et)))
    (hg : guardE (dsts ops) tm o.guard = some true := by rfl) (hdst : o.dst = some d := by rfl) (hlt : Nat.blt d C.n = true := by rfl) (ho : o.op = .call { callee := .builtin .copy, args := #[x, y], argTypes := #[t, u] } := by rfl) (hx : opd tm x = some (.v (.slice (some ⟨g, off, none⟩) n c)) := by rfl) (hy : opd tm y = some (.v (.string (str bs))) := by rfl) (ht : C.T.get t = some it := by rfl) (he : elemE it.desc = some e := by rfl) (hi : C.T.get e = some ie := by rfl) (h1 : ie.size = 1 := by rfl) (hn : l[m]? = some (HP.row g cs et) := by rfl) : Good C Q0 (.ops ops (o :: os)) K tm l :=
  Good.op hg fun Kk Q hK a w hA hS => by
    obtain ⟨j, hj, hjs, hjb, hjz⟩ := (C.ok e ie hi).info
    have hu := (C.ok t it ht).under
    rw [elemE_ok he] at hu
    have hx' : a.eval x = .slice (some ⟨g, off, none⟩) n c := hA.eval hx
    have hy' : a.eval y = .string (str bs) := hA.eval hy
    obtain ⟨hr, hfit⟩ := listSet_ok hs
    have hb := hS.block m hn
    have hbc : Lib.byteCells (str bs).data.toList = strCells (str bs) := rfl
    have hrr := Lib.run_copy_row_string (P := C.P) w t u o.type e g off n c (str bs) cs.toArray et hu (by rw [hj]; simp [hjs, h1]) hb (by simpa using hle) (by rw [str_size]; simpa [strCells_len] using hfit)
    rw [hbc, str_size] at hrr
    have hrun : (execOp a.eval o).run C.P w = .ok (.value (.int .i64 bs.length)) (w.setRow g r.toArray) := by
      unfold execOp
      simp only [ho, resolve, invoke, builtin, Sem.run_bind, Sem.run_pure, Result.andThen_ok, List.map_toArray, List.map_cons, List.map_nil, hx', hy', hrr]
      rw [hr, strCells_len]; rfl
    show o.wp C.P a w Kk Q
    unfold Oper.wp
    rw [hrun]
    exact hK ((d, .v (.int .i64 bs.length)) :: tm) _ kk _ _ (by have := hA.put (dst_some hdst hlt) (.int .i64 bs.length); rwa [put_some hdst] at this) (hS.write m hn rfl rfl rfl (by simp [World.setRow]) (setRow_heap w g cs.toArray r.toArray et (0, 0) hb) (fun b hb => setRow_other w g b _ hb))
/-- An entry that is no function of the program's. -/
theorem Yv.extern {f : FuncId} {fn : Func} {ext : Array Value → Sem Value} {xs : List Operand} {ts : Array TypeId} {vs : List Value} {v : Value} (hf : C.P.funcs[f]? = some fn) (hname : (fn.name == "runtime.NumGoroutine") = false) (hb : fn.body.isNone = true) (hn : Extern.findNext fn = none) (he : Extern.find fn = some ext)
    (ho : o.op = .call { callee := .value (.func f), args := xs.toArray, argTypes := ts }) (ha : opds tm xs = some vs) (hr : ∀ w, (ext vs.toArray).run C.P w = .ok v w) : Yv C tm o v := fun ac hA w => by
  have hf' : ac.eval (.func f) = .func (.func f) #[] #[] := rfl
  unfold execOp
  simp only [ho, resolve, Deferred.ofValue, invoke, Sem.run_bind, Sem.run_pure, Result.andThen_ok, List.map_toArray, opds_ok hA ha, hf']
  rw [show (#[] ++ vs.toArray ++ #[] : Array Value) = vs.toArray from by simp, run_callFunc_extern hf hname hb hn he, hr w]
  rfl
end
end Go.Proofs.YtnfcbpgckomdfaaDoor
