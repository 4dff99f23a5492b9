/- Rules for operations that read, write or make memory, and for those that ask for a bound. For all of this seat's walks. -/
import Derived.Test.YtnfcbpgckomdfaaDoorGo
namespace Go.Proofs.YtnfcbpgckomdfaaDoor

/-- A text of bytes. -/
def str (l : List UInt8) : ByteArray := ⟨l.toArray⟩
@[simp] theorem str_size (l : List UInt8) : (str l).size = l.length := by simp [str, ByteArray.size]
@[simp] theorem str_toList (l : List UInt8) : (str l).toList = l := ByteArray.toList_mk l
@[simp] theorem str_data (l : List UInt8) : (str l).data.toList = l := rfl
theorem str_eta (s : ByteArray) : str s.data.toList = s := rfl
theorem str_get (l : List UInt8) (i : Nat) : (str l)[i]? = l[i]? := by
  show (if h : i < (str l).size then some ((str l)[i]) else none) = _
  by_cases h : i < l.length
  · rw [dif_pos (by simpa using h), List.getElem?_eq_getElem h]; rfl
  · rw [dif_neg (by simpa using h), List.getElem?_eq_none (by omega)]
theorem str_inj {a b : List UInt8} (h : str a = str b) : a = b := by simpa [str] using h
theorem str_append (a b : List UInt8) : str a ++ str b = str (a ++ b) := by
  apply ByteArray.ext; simp [str]
theorem str_extract (l : List UInt8) (i j : Nat) : (str l).extract i j = str ((l.take j).drop i) := by
  apply ByteArray.ext; simp [str, List.drop_take]

/-- Yields that value, whatever the world. -/
def Yv (C : Cx) (tm : Tm) (o : Oper) (v : Value) : Prop := ∀ a, Agree C.n tm a → ∀ w, (execOp a.eval o).run C.P w = .ok (.value v) w
section
variable {C : Cx} {tm : Tm} {l : List HP} {J : Tm → List HP → Prop} {o : Oper}
theorem OpW.yv {v : Value} (hd : dstOk C.n o.dst = true) (h : Yv C tm o v) (k : J (tm.put o.dst v) l) : OpW C o tm l J := OpW.yields v hd (fun a w hA _ => h a hA w) k
theorem Yv.pure {e : Ent} (h : pevT C.T tm o.op = some e) : Yv C tm o e.val := fun _ hA w => pevT_ok C.ok hA h w
/-- x op y, by what is told of its value -/
theorem Yv.bin {op : BinOp} {t t' : TypeId} {x y : Operand} {u v : Ent} {z : Value} (ho : o.op = .binOp op t x y t') (hx : opd tm x = some u) (hy : opd tm y = some v) (h : binE op u.val v.val = some z) : Yv C tm o z := fun a hA w => by
  have := binE_ok (P := C.P) (t := t) h x y w
  unfold execOp
  simp only [ho, hA.eval hx, hA.eval hy]
  simp only [Sem.run_bind] at this ⊢
  simp only [this, Result.andThen_ok, Sem.run_pure]
def isStr : TypeDesc → Bool
  | .string => true
  | _ => false
def elemE : TypeDesc → Option TypeId
  | .slice e => some e
  | _ => none
theorem isStr_ok {d : TypeDesc} (h : isStr d = true) : d = .string := by cases d <;> first | rfl | cases h
theorem elemE_ok {d : TypeDesc} {e : TypeId} (h : elemE d = some e) : d = .slice e := by cases d <;> first | (simp [elemE] at h; rw [h]) | cases h
/-- s[i] -/
theorem Yv.index {t : TypeId} {x y : Operand} {i : TI} {bs : List UInt8} {k : IntKind} {n : Int} {b : UInt8} (ho : o.op = .index t x y) (hi : C.T.get t = some i) (hs : isStr i.desc = true)
    (hx : opd tm x = some (.v (.string (str bs)))) (hy : opd tm y = some (.v (.int k n))) (h0 : 0 ≤ n) (hb : bs[n.toNat]? = some b) : Yv C tm o (.int .u8 b.toNat) := fun a hA w => by
  have hu := C.ok.under hi w
  rw [isStr_ok hs] at hu
  unfold execOp
  simp only [ho, hA.eval hx, hA.eval hy, Ent.val, Instr.index, asIntOf, Sem.run_bind, Sem.run_pure, Result.andThen_ok, hu, if_pos h0, str_get, hb]
/-- &s[i] of a slice -/
theorem Yv.indexAddr {t : TypeId} {x y : Operand} {i j : TI} {e : TypeId} {g off len cap : Nat} {k : IntKind} {n : Int} (ho : o.op = .indexAddr t x y) (hi : C.T.get t = some i) (he : elemE i.desc = some e) (hj : C.T.get e = some j)
    (hx : opd tm x = some (.v (.slice (some ⟨g, off, none⟩) len cap))) (hy : opd tm y = some (.v (.int k n))) (h0 : 0 ≤ n) (h1 : n < len) : Yv C tm o (.pointer (some ⟨g, off + n.toNat * j.size, none⟩)) := fun a hA w => by
  have hu := C.ok.under hi w
  rw [elemE_ok he] at hu
  have hz := C.ok.sizeOf hj w
  have h2 : 0 ≤ n ∧ n < (len : Int) := ⟨h0, h1⟩
  unfold execOp
  simp [ho, hA.eval hx, hA.eval hy, Ent.val, Instr.indexAt, asIntOf, hu, hz, addr_add, h2]
def arrE : TypeDesc → Option (Nat × TypeId)
  | .array n e => some (n, e)
  | _ => none
theorem arrE_ok {d : TypeDesc} {n : Nat} {e : TypeId} (h : arrE d = some (n, e)) : d = .array n e := by cases d <;> first | (simp [arrE] at h; rw [h.1, h.2]) | cases h
/-- &t[i] of an array behind a pointer -/
theorem Yv.indexArr {t : TypeId} {x y : Operand} {i j : TI} {e : TypeId} {g off len : Nat} {k : IntKind} {n : Int} (ho : o.op = .indexAddr t x y) (hi : C.T.get t = some i) (he : arrE i.desc = some (len, e)) (hj : C.T.get e = some j)
    (hx : opd tm x = some (.v (.pointer (some ⟨g, off, none⟩)))) (hy : opd tm y = some (.v (.int k n))) (h0 : 0 ≤ n) (h1 : n < len) : Yv C tm o (.pointer (some ⟨g, off + n.toNat * j.size, none⟩)) := fun a hA w => by
  have hu := C.ok.under hi w
  rw [arrE_ok he] at hu
  have hz := C.ok.sizeOf hj w
  have h2 : 0 ≤ n ∧ n < (len : Int) := ⟨h0, h1⟩
  unfold execOp
  simp [ho, hA.eval hx, hA.eval hy, Ent.val, Instr.indexAt, Instr.sureAddr, asIntOf, hu, hz, addr_add, h2]
/-- the zero value of an array type -/
theorem Yv.zeroArr {t : TypeId} {i j : TI} {n : Nat} {e : TypeId} (ho : o.op = .build t #[]) (hi : C.T.get t = some i) (he : arrE i.desc = some (n, e)) (hj : C.T.get e = some j) : Yv C tm o (.agg i.zero.cells) := fun a _ w => by
  have hu := C.ok.under hi w
  rw [arrE_ok he] at hu
  unfold execOp
  simp [ho, Instr.build, C.ok.zeroOf hi w, hu, C.ok.sizeOf hj w, Instr.fill]
def opdO (tm : Tm) : Option Operand → Option (Option Value)
  | none => some none
  | some x => match opd tm x with
    | some e => some (some e.val)
    | none => none
theorem opdO_ok {n : Nat} {a : Act} (hA : Agree n tm a) {x : Option Operand} {v : Option Value} (h : opdO tm x = some v) : x.map a.eval = v := by
  cases x with
  | none => simp [opdO] at h; subst h; rfl
  | some x =>
    simp only [opdO] at h
    split at h
    · rename_i e he; have := Option.some.inj h; subst this; simp [hA.eval he]
    · cases h
/-- s[i:j], s[i:], s[:j] of a text -/
theorem Yv.sliceStr {t : TypeId} {x : Operand} {lo hi : Option Operand} {i : TI} {bs : List UInt8} {vl vh : Option Value} (a b : Nat) (ho : o.op = .slice t x lo hi none) (ht : C.T.get t = some i) (hs : isStr i.desc = true)
    (hx : opd tm x = some (.v (.string (str bs)))) (hl : opdO tm lo = some vl) (hh : opdO tm hi = some vh) (h1 : match vl with | none => a = 0 | some v => ∃ k, v = .int k (a : Int)) (h2 : match vh with | none => b = bs.length | some v => ∃ k, v = .int k (b : Int)) (hab : a ≤ b) (hb : b ≤ bs.length) :
    Yv C tm o (.string (str ((bs.take b).drop a))) := fun ac hA w => by
  have hu := C.ok.under ht w
  rw [isStr_ok hs] at hu
  have e1 := opdO_ok hA hl
  have e2 := opdO_ok hA hh
  unfold execOp
  simp only [ho, hA.eval hx, Ent.val, e1, e2, Instr.sliceAt, Instr.slice, Sem.run_bind, Result.andThen_ok, hu]
  cases vl <;> cases vh <;> simp only at h1 h2
  · subst h1 h2; simp [Instr.sliceBounds, str_extract]
  · obtain ⟨k, rfl⟩ := h2; subst h1; simp [Instr.sliceBounds, Instr.sliceBound, asIntOf, str_extract]; intro h; omega
  · obtain ⟨k, rfl⟩ := h1; subst h2; simp [Instr.sliceBounds, Instr.sliceBound, asIntOf, str_extract]; intro h; omega
  · obtain ⟨k, rfl⟩ := h1; obtain ⟨k', rfl⟩ := h2; simp [Instr.sliceBounds, Instr.sliceBound, asIntOf, str_extract, hab, hb]
/-- s + t -/
theorem Yv.concat {t t' : TypeId} {x y : Operand} {a b : List UInt8} (ho : o.op = .binOp .add t x y t') (hx : opd tm x = some (.v (.string (str a)))) (hy : opd tm y = some (.v (.string (str b)))) (hb : a.length + b.length ≤ 9223372036854775807) :
    Yv C tm o (.string (str (a ++ b))) := fun ac hA w => by
  have hb' : ¬ (((a.length + b.length : Nat) : Int) > IntKind.i64.max) := by simp [IntKind.max, IntKind.signed, IntKind.bits]; omega
  unfold execOp
  have hg : eqGuard .add t x y (.string (str a)) (.string (str b)) = Pure.pure () := rfl
  simp only [ho, hA.eval hx, hA.eval hy, Ent.val, hg, binOp, Op.stringOp, str_size, if_neg hb', str_append, Sem.run_bind, Sem.run_pure, Result.andThen_ok]
theorem Yv.max2 {ts : Array TypeId} {x y : Operand} {k k' : IntKind} {a b : Int} (ho : o.op = .call { callee := .builtin .max, args := #[x, y], argTypes := ts }) (hx : opd tm x = some (.v (.int k a))) (hy : opd tm y = some (.v (.int k' b))) :
    Yv C tm o (.int k (if b > a then b else a)) := fun ac hA w => by
  unfold execOp
  simp [ho, resolve, invoke, builtin, hA.eval hx, hA.eval hy, Ent.val, Builtin.max_, Builtin.max2]
theorem Yv.min2 {ts : Array TypeId} {x y : Operand} {k k' : IntKind} {a b : Int} (ho : o.op = .call { callee := .builtin .min, args := #[x, y], argTypes := ts }) (hx : opd tm x = some (.v (.int k a))) (hy : opd tm y = some (.v (.int k' b))) :
    Yv C tm o (.int k (if b < a then b else a)) := fun ac hA w => by
  unfold execOp
  simp [ho, resolve, invoke, builtin, hA.eval hx, hA.eval hy, Ent.val, Builtin.min_, Builtin.min2]

/-! ## loads -/
theorem isAgg_no {i : TI} {t : TypeId} (hi : C.T.get t = some i) (hr : isRow i.desc = false) (w : World) : (isAgg t).run C.P w = .ok false w := by
  have hu := C.ok.under hi w
  unfold isAgg
  simp only [Sem.run_bind, hu, Result.andThen_ok]
  cases hd : i.desc <;> simp [hd, isRow] at hr ⊢
theorem isAgg_yes {i : TI} {t : TypeId} (hi : C.T.get t = some i) (hr : isRow i.desc = true) (w : World) : (isAgg t).run C.P w = .ok true w := by
  have hu := C.ok.under hi w
  unfold isAgg
  simp only [Sem.run_bind, hu, Result.andThen_ok]
  cases hd : i.desc <;> simp [hd, isRow] at hr ⊢
theorem loadVar_one {i : TI} {t : TypeId} (hi : C.T.get t = some i) (hr : isRow i.desc = false) {ad : Addr} {v : Value} {w : World} (h : w.cell? ad = some v) : (loadVar t ad).run C.P w = .ok v w := by
  unfold loadVar
  simp [isAgg_no hi hr w, load, Sem.run, h]
theorem loadVar_row {i : TI} {t : TypeId} (hi : C.T.get t = some i) (hr : isRow i.desc = true) {g k : Nat} {vs : List Value} {w : World} (hn : vs.length = i.size) (h : ∀ j v, vs[j]? = some v → w.cell? ⟨g, k + j, none⟩ = some v) :
    (loadVar t ⟨g, k, none⟩).run C.P w = .ok (.agg vs.toArray) w := by
  unfold loadVar
  have h1 := run_loadCells_list (P := C.P) w ⟨g, k, none⟩ vs (fun j v hv => by rw [addr_add]; exact h j v hv)
  rw [hn] at h1
  simp [isAgg_yes hi hr w, C.ok.sizeOf hi w, h1]
theorem OpW.load {t : TypeId} {x : Operand} {i : TI} {ad : Addr} {v : Value} (ho : o.op = .load t x) (hi : C.T.get t = some i) (hr : isRow i.desc = false) (hx : opd tm x = some (.v (.pointer (some ad))))
    (hd : dstOk C.n o.dst = true) (hc : ∀ w, Sat C.W C.p l w → w.cell? ad = some v) (k : J (tm.put o.dst v) l) : OpW C o tm l J :=
  OpW.yields v hd (fun a w hA hS => by
    unfold execOp; simp [ho, hA.eval hx, Ent.val, Instr.loadAt, Instr.sureAddr, loadVar_one hi hr (hc w hS)]) k
theorem OpW.loadRow {t : TypeId} {x : Operand} {i : TI} {g k : Nat} (vs : List Value) (ho : o.op = .load t x) (hi : C.T.get t = some i) (hr : isRow i.desc = true) (hx : opd tm x = some (.v (.pointer (some ⟨g, k, none⟩))))
    (hd : dstOk C.n o.dst = true) (hn : vs.length = i.size) (hc : ∀ w, Sat C.W C.p l w → ∀ j v, vs[j]? = some v → w.cell? ⟨g, k + j, none⟩ = some v) (kk : J (tm.put o.dst (.agg vs.toArray)) l) : OpW C o tm l J :=
  OpW.yields _ hd (fun a w hA hS => by
    unfold execOp; simp [ho, hA.eval hx, Ent.val, Instr.loadAt, Instr.sureAddr, loadVar_row hi hr hn (hc w hS)]) kk
def nthL : List Value → Nat → Option Value
  | [], _ => none
  | v :: _, 0 => some v
  | _ :: l, n + 1 => nthL l n
theorem nthL_ok : ∀ {l : List Value} {i : Nat} {e : Value}, nthL l i = some e → l[i]? = some e
  | [], _, _, h => by simp [nthL] at h
  | v :: _, 0, e, h => by simp [nthL] at h; subst h; rfl
  | _ :: l, i + 1, e, h => by simpa using nthL_ok (l := l) (by simpa [nthL] using h)
/-- A load out of part i of memory. -/
theorem OpW.loadAt (n : Nat) {t : TypeId} {x : Operand} {i : TI} {g k : Nat} {cs : List Value} {e : TypeId} {v : Value} (ho : o.op = .load t x) (hi : C.T.get t = some i) (hr : isRow i.desc = false) (hx : opd tm x = some (.v (.pointer (some ⟨g, k, none⟩))))
    (hd : dstOk C.n o.dst = true) (hn : l[n]? = some (HP.row g cs e)) (hv : nthL cs k = some v) (kk : J (tm.put o.dst v) l) : OpW C o tm l J :=
  OpW.load ho hi hr hx hd (fun _ hS => hS.cell n hn (nthL_ok hv)) kk
theorem nthL_eq : ∀ (l : List Value) (i : Nat), nthL l i = l[i]?
  | [], _ => by simp [nthL]
  | v :: _, 0 => rfl
  | _ :: l, n + 1 => by simpa [nthL] using nthL_eq l n
def takeL : Nat → List Value → Option (List Value)
  | 0, _ => some []
  | _ + 1, [] => none
  | n + 1, v :: l => match takeL n l with
    | some r => some (v :: r)
    | none => none
def dropL : Nat → List Value → List Value
  | 0, l => l
  | _ + 1, [] => []
  | n + 1, _ :: l => dropL n l
theorem takeL_ok : ∀ {n : Nat} {l r : List Value}, takeL n l = some r → r.length = n ∧ ∀ (j : Nat) (v : Value), r[j]? = some v → l[j]? = some v
  | 0, l, r, h => by simp [takeL] at h; subst h; exact ⟨rfl, fun j v h => by simp at h⟩
  | _ + 1, [], r, h => by simp [takeL] at h
  | n + 1, x :: l, r, h => by
    simp only [takeL] at h
    split at h
    · rename_i r' hr
      simp at h; subst h
      obtain ⟨h1, h2⟩ := takeL_ok hr
      refine ⟨by simp [h1], fun j v hj => ?_⟩
      cases j with
      | zero => simpa using hj
      | succ j => simpa using h2 j v (by simpa using hj)
    · cases h
theorem dropL_eq : ∀ (n : Nat) (l : List Value), dropL n l = l.drop n
  | 0, l => rfl
  | _ + 1, [] => rfl
  | n + 1, _ :: l => by simpa [dropL] using dropL_eq n l
theorem OpW.loadRowAt (n : Nat) {t : TypeId} {x : Operand} {i : TI} {g k : Nat} {cs vs : List Value} {e : TypeId} (ho : o.op = .load t x) (hi : C.T.get t = some i) (hr : isRow i.desc = true) (hx : opd tm x = some (.v (.pointer (some ⟨g, k, none⟩))))
    (hd : dstOk C.n o.dst = true) (hn : l[n]? = some (HP.row g cs e)) (hv : takeL i.size (dropL k cs) = some vs) (kk : J (tm.put o.dst (.agg vs.toArray)) l) : OpW C o tm l J := by
  obtain ⟨h1, h2⟩ := takeL_ok hv
  refine OpW.loadRow vs ho hi hr hx hd h1 (fun w hS j v hj => hS.cell n hn ?_) kk
  have := h2 j v hj
  rw [dropL_eq, List.getElem?_drop] at this
  exact this

/-! ## stores -/
def cellsL : Value → Option (List Value)
  | .agg cs => some cs.toList
  | .tuple _ => none
  | v => some [v]
def oneL : List Value → Bool
  | [] => true
  | .agg _ :: _ => false
  | .tuple _ :: _ => false
  | _ :: l => oneL l
theorem oneL_ok : ∀ {l : List Value}, oneL l = true → ∀ u ∈ l, u.oneCell' = true
  | [], _, u, h => by simp at h
  | v :: l, hl, u, h => by
    have hv : v.oneCell' = true ∧ oneL l = true := by
      cases v <;> simp [oneL, Value.oneCell'] at hl ⊢ <;> exact hl
    rcases List.mem_cons.1 h with rfl | h
    · exact hv.1
    · exact oneL_ok hv.2 u h
def cellsE : Ent → Option (List Value)
  | .v x => cellsL x
  | .t => some [.bool true]
  | .f => some [.bool false]
theorem cellsE_eq {e : Ent} {us : List Value} (h : cellsE e = some us) : cellsL e.val = some us := by cases e <;> exact h
theorem cellsL_ok {v : Value} {us : List Value} (h : cellsL v = some us) : v.cells.toList = us := by
  cases v <;> simp [cellsL] at h <;> subst h <;> simp [Value.cells]
theorem listSet_ok : ∀ {l : List Value} {i : Nat} {vs r : List Value}, listSet l i vs = some r → r = l.take i ++ vs ++ l.drop (i + vs.length) ∧ i + vs.length ≤ l.length
  | [], 0, [], r, h => by simp [listSet] at h; subst h; simp
  | x :: l, 0, [], r, h => by simp [listSet] at h; subst h; simp
  | x :: l, 0, v :: vs, r, h => by
    simp only [listSet] at h
    split at h
    · rename_i r' hr
      simp at h; subst h
      obtain ⟨h1, h2⟩ := listSet_ok hr
      refine ⟨by rw [h1]; simp, by simp at h2 ⊢; omega⟩
    · cases h
  | [], 0, _ :: _, r, h => by simp [listSet] at h
  | x :: l, i + 1, vs, r, h => by
    simp only [listSet] at h
    split at h
    · rename_i r' hr
      simp at h; subst h
      obtain ⟨h1, h2⟩ := listSet_ok hr
      refine ⟨by rw [h1]; simp [show i + 1 + vs.length = (i + vs.length) + 1 from by omega], by simp; omega⟩
    · cases h
  | [], _ + 1, vs, r, h => by cases vs <;> simp [listSet] at h
/-- Cells of part n of memory are turned. -/
theorem OpW.storeAt (n : Nat) {t : TypeId} {x y : Operand} {i : TI} {g k : Nat} {cs us r : List Value} {e : TypeId} {u : Ent} (ho : o.op = .store t x y) (hi : C.T.get t = some i) (hx : opd tm x = some (.v (.pointer (some ⟨g, k, none⟩))))
    (hy : opd tm y = some u) (hc : cellsL u.val = some us) (h1 : oneL us = true) (hz : Nat.beq us.length i.size = true) (hd : dstOk C.n o.dst = true) (hn : l[n]? = some (HP.row g cs e)) (hs : listSet cs k us = some r)
    (kk : J (tm.put o.dst undef) (l.set n (HP.row g r e))) : OpW C o tm l J := fun K Q hK a w hA hS => by
  have hg := hS.block n hn
  obtain ⟨hr, hfit⟩ := listSet_ok hs
  have hst := run_storeCells_at C.P g k e us 0 cs.toArray w hg (by simpa using hfit) (oneL_ok h1)
  have hzz : us.length = i.size := Nat.eq_of_beq_eq_true hz
  have hcs := cellsL_ok hc
  have hsz : u.val.cells.size = i.size := by rw [← hzz, ← hcs]; simp
  have hrun : (execOp a.eval o).run C.P w = .ok .skip (w.setRow g r.toArray) := by
    have hx' : a.eval x = .pointer (some ⟨g, k, none⟩) := hA.eval hx
    unfold execOp
    simp only [ho, hx', hA.eval hy, Instr.storeAt, Instr.sureAddr, storeVar, Sem.run_bind, Sem.run_pure, Result.andThen_ok, C.ok.sizeOf hi w]
    simp only [hsz, ne_eq, not_true, if_false, hcs]
    rw [hst]
    simp [hr]
  show o.wp C.P a w K Q
  unfold Oper.wp
  rw [hrun]
  refine hK _ _ kk _ _ (hA.put hd undef) (hS.write n hn rfl rfl rfl (by simp [World.setRow]) (setRow_heap w g cs.toArray r.toArray e (0, 0) hg) (fun b hb => setRow_other w g b _ hb))

/-! ## new blocks -/
theorem OpW.alloc {t : TypeId} {i : TI} {us : List Value} (ho : o.op = .alloc t) (hi : C.T.get t = some i) (hc : cellsL i.zero = some us) (hd : dstOk C.n o.dst = true) (k : ∀ g, J (tm.put o.dst (.pointer (some ⟨g, 0, none⟩))) (HP.row g us t :: l)) : OpW C o tm l J := fun K Q hK a w hA hS => by
  have hrun : (execOp a.eval o).run C.P w = .ok (.value (.pointer (some ⟨w.heap.size, 0, none⟩))) { w with heap := w.heap.push (.cells us.toArray t) } := by
    have hcs : i.zero.cells = us.toArray := by rw [← cellsL_ok hc]
    unfold execOp
    simp [ho, Instr.alloc, C.ok.zeroOf hi w, newVar, newRow, newObj, Sem.run, hcs]
  show o.wp C.P a w K Q
  unfold Oper.wp
  rw [hrun]
  exact hK _ _ (k w.heap.size) _ _ (hA.put hd _) (hS.alloc _)
theorem OpW.box {t : TypeId} {x : Operand} {u : Ent} {us : List Value} (ho : o.op = .box t x) (hx : opd tm x = some u) (hc : cellsL u.val = some us) (hd : dstOk C.n o.dst = true) (k : ∀ g, J (tm.put o.dst (.pointer (some ⟨g, 0, none⟩))) (HP.row g us t :: l)) : OpW C o tm l J := fun K Q hK a w hA hS => by
  have hrun : (execOp a.eval o).run C.P w = .ok (.value (.pointer (some ⟨w.heap.size, 0, none⟩))) { w with heap := w.heap.push (.cells us.toArray t) } := by
    have hcs : u.val.cells = us.toArray := by rw [← cellsL_ok hc]
    unfold execOp
    simp [ho, Instr.box, hA.eval hx, newVar, newRow, newObj, Sem.run, hcs]
  show o.wp C.P a w K Q
  unfold Oper.wp
  rw [hrun]
  exact hK _ _ (k w.heap.size) _ _ (hA.put hd _) (hS.alloc _)
end

/-! ## the same, as steps of a walk -/
section
variable {C : Cx} {Q0 : Exit → Act → World → Prop} {K : List Fr} {tm : Tm} {l : List HP} {ops : Array Oper} {o : Oper} {os : List Oper} {d : Tmp} {L : List Nat}
theorem Good.on {s s' : St} {K' : List Fr} {tm' : Tm} (g : Good C Q0 s' K' tm' l) (h : adv C.T C.n 200 s K tm = .mk s' K' tm' := by rfl) : Good C Q0 s K tm l := Good.go h g
/-- One operation behind which the frame stands in the next slot. -/
theorem put_some {o : Oper} {v : Value} (hd : o.dst = some d) : tm.put o.dst v = (d, .v v) :: tm := by rw [hd]; rfl
theorem dst_some {n : Nat} {o : Oper} (hd : o.dst = some d) (hn : Nat.blt d n = true) : dstOk n o.dst = true := by rw [hd]; exact hn
theorem Good.load (n : Nat) {t : TypeId} {x : Operand} {i : TI} {g k : Nat} {cs : List Value} {e : TypeId} {v : Value} (kk : Good C Q0 (.ops ops os) K ((d, .v v) :: tm) l)
    (hg : guardE (dsts ops) tm o.guard = some true := by rfl) (ho : o.op = .load t x := by rfl) (hdst : o.dst = some d := by rfl) (hlt : Nat.blt d C.n = true := by rfl) (hi : C.T.get t = some i := by rfl) (hr : isRow i.desc = false := by rfl)
    (hx : opd tm x = some (.v (.pointer (some ⟨g, k, none⟩))) := by rfl) (hn : l[n]? = some (HP.row g cs e) := by rfl) (hv : nthL cs k = some v := by rfl) : Good C Q0 (.ops ops (o :: os)) K tm l :=
  Good.op hg (OpW.loadAt n ho hi hr hx (dst_some hdst hlt) hn hv (by rw [put_some hdst]; exact kk))
theorem Good.loadRow (n : Nat) {t : TypeId} {x : Operand} {i : TI} {g k : Nat} {cs vs : List Value} {e : TypeId} (kk : Good C Q0 (.ops ops os) K ((d, .v (.agg vs.toArray)) :: tm) l)
    (hg : guardE (dsts ops) tm o.guard = some true := by rfl) (ho : o.op = .load t x := by rfl) (hdst : o.dst = some d := by rfl) (hlt : Nat.blt d C.n = true := by rfl) (hi : C.T.get t = some i := by rfl) (hr : isRow i.desc = true := by rfl)
    (hx : opd tm x = some (.v (.pointer (some ⟨g, k, none⟩))) := by rfl) (hn : l[n]? = some (HP.row g cs e) := by rfl) (hv : takeL i.size (dropL k cs) = some vs := by rfl) : Good C Q0 (.ops ops (o :: os)) K tm l :=
  Good.op hg (OpW.loadRowAt n ho hi hr hx (dst_some hdst hlt) hn hv (by rw [put_some hdst]; exact kk))
theorem Good.store (n : Nat) {t : TypeId} {x y : Operand} {i : TI} {g k : Nat} {cs us r : List Value} {e : TypeId} {u : Ent} {l' : List HP} (kk : Good C Q0 (.ops ops os) K tm l')
    (hg : guardE (dsts ops) tm o.guard = some true := by rfl) (ho : o.op = .store t x y := by rfl) (hdst : o.dst = none := by rfl) (hi : C.T.get t = some i := by rfl)
    (hx : opd tm x = some (.v (.pointer (some ⟨g, k, none⟩))) := by rfl) (hy : opd tm y = some u := by rfl) (hc : cellsE u = some us := by rfl) (h1 : oneL us = true := by rfl) (hz : Nat.beq us.length i.size = true := by rfl) (hn : l[n]? = some (HP.row g cs e) := by rfl)
    (hs : listSet cs k us = some r := by rfl) (hl : l.set n (HP.row g r e) = l' := by first | (dsimp only [List.set]; done) | rfl) : Good C Q0 (.ops ops (o :: os)) K tm l :=
  Good.op hg (OpW.storeAt n ho hi hx hy (cellsE_eq hc) h1 hz (by rw [hdst]; rfl) hn hs (by rw [hdst, hl]; exact kk))
theorem Good.alloc {t : TypeId} {i : TI} {us : List Value} (kk : ∀ g, Good C Q0 (.ops ops os) K ((d, .v (.pointer (some ⟨g, 0, none⟩))) :: tm) (HP.row g us t :: l)) (hg : guardE (dsts ops) tm o.guard = some true := by rfl) (ho : o.op = .alloc t := by rfl) (hdst : o.dst = some d := by rfl) (hlt : Nat.blt d C.n = true := by rfl) (hi : C.T.get t = some i := by rfl) (hc : cellsL i.zero = some us := by rfl) : Good C Q0 (.ops ops (o :: os)) K tm l :=
  Good.op hg (OpW.alloc ho hi hc (dst_some hdst hlt) fun g => by rw [put_some hdst]; exact kk g)
theorem Good.box {t : TypeId} {x : Operand} {u : Ent} {us : List Value} (kk : ∀ g, Good C Q0 (.ops ops os) K ((d, .v (.pointer (some ⟨g, 0, none⟩))) :: tm) (HP.row g us t :: l)) (hg : guardE (dsts ops) tm o.guard = some true := by rfl) (ho : o.op = .box t x := by rfl) (hdst : o.dst = some d := by rfl) (hlt : Nat.blt d C.n = true := by rfl) (hx : opd tm x = some u := by rfl) (hc : cellsE u = some us := by rfl) : Good C Q0 (.ops ops (o :: os)) K tm l :=
  Good.op hg (OpW.box ho hx (cellsE_eq hc) (dst_some hdst hlt) fun g => by rw [put_some hdst]; exact kk g)
/-- A value that no memory decides. -/
theorem Good.val {v : Value} (h : Yv C tm o v) (kk : Good C Q0 (.ops ops os) K ((d, .v v) :: tm) l) (hg : guardE (dsts ops) tm o.guard = some true := by rfl) (hdst : o.dst = some d := by rfl) (hlt : Nat.blt d C.n = true := by rfl) : Good C Q0 (.ops ops (o :: os)) K tm l :=
  Good.op hg (OpW.yv (dst_some hdst hlt) h (by rw [put_some hdst]; exact kk))
theorem Good.call0 {f : FuncId} {xs : List Operand} {ats : Array TypeId} {vs : List Value} {R : Value → List HP → Prop} (S : Spec C.P f vs.toArray noFacts [] R) (hc : CallOk C.P f) (kk : ∀ v L, R v L → Good C Q0 (.ops ops os) K ((d, .v v) :: tm) (L ++ l))
    (hg : guardE (dsts ops) tm o.guard = some true := by rfl) (hdst : o.dst = some d := by rfl) (hlt : Nat.blt d C.n = true := by rfl) (ho : o.op = .call { callee := .value (.func f), args := xs.toArray, argTypes := ats } := by rfl) (ha : opds tm xs = some vs := by rfl) : Good C Q0 (.ops ops (o :: os)) K tm l :=
  Good.op hg (OpW.call0 S hc ho (dst_some hdst hlt) ha fun v L h => by rw [put_some hdst]; exact kk v L h)
theorem Good.call1 (i : Nat) {f : FuncId} {xs : List Operand} {ats : Array TypeId} {vs : List Value} {A : HP} {R : Value → List HP → Prop} (S : Spec C.P f vs.toArray noFacts [A] R) (hc : CallOk C.P f) (kk : ∀ v L, R v L → Good C Q0 (.ops ops os) K ((d, .v v) :: tm) (L ++ l.eraseIdx i))
    (hi : l[i]? = some A := by rfl) (hg : guardE (dsts ops) tm o.guard = some true := by rfl) (hdst : o.dst = some d := by rfl) (hlt : Nat.blt d C.n = true := by rfl) (ho : o.op = .call { callee := .value (.func f), args := xs.toArray, argTypes := ats } := by rfl) (ha : opds tm xs = some vs := by rfl) : Good C Q0 (.ops ops (o :: os)) K tm l :=
  Good.op hg (OpW.call1 i S hc ho (dst_some hdst hlt) ha hi fun v L h => by rw [put_some hdst]; exact kk v L h)
/-- A guard, or a test, that is open. -/
theorem Good.partB {d : Tmp} {b : Bool} (t : b = true → Good C Q0 (.ops ops (o :: os)) K ((d, .t) :: tm) l) (f : b = false → Good C Q0 (.ops ops (o :: os)) K ((d, .f) :: tm) l) (hs : gslot (dsts ops) o.guard = some d := by rfl) (hb : tm.get d = some (.v (.bool b)) := by rfl) : Good C Q0 (.ops ops (o :: os)) K tm l := Good.part hs hb t f
theorem Good.partD {d : Tmp} {b : Prop} [Decidable b] (t : b → Good C Q0 (.ops ops (o :: os)) K ((d, .t) :: tm) l) (f : ¬ b → Good C Q0 (.ops ops (o :: os)) K ((d, .f) :: tm) l) (hs : gslot (dsts ops) o.guard = some d := by rfl) (hb : tm.get d = some (.v (.bool (decide b))) := by rfl) : Good C Q0 (.ops ops (o :: os)) K tm l := Good.partP hs hb t f
theorem Good.ifB {c : Operand} {x y : Code} {b : Bool} (t : b = true → Good C Q0 (.code x) K tm l) (f : b = false → Good C Q0 (.code y) K tm l) (hc : opd tm c = some (.v (.bool b)) := by rfl) : Good C Q0 (.code (.cond c x y)) K tm l := Good.cond hc t f
theorem Good.ifD {c : Operand} {x y : Code} {b : Prop} [Decidable b] (t : b → Good C Q0 (.code x) K tm l) (f : ¬ b → Good C Q0 (.code y) K tm l) (hc : opd tm c = some (.v (.bool (decide b))) := by rfl) : Good C Q0 (.code (.cond c x y)) K tm l := Good.condP hc t f
/-- A region that draws its order: what needs nothing, as far as it goes. -/
theorem Good.drawn {S : World → Prop} {L' : List Nat} {tm' : Tm} (g : Good C Q0 (.drw ops S L') K tm' l) (h : runI C.T C.n (dsts ops) 0 ops.toList L tm = .mk L' tm' := by rfl) (hs : Region.noSelect ops = true := by kernel_rfl) (hm : mayTake ops L L' = true := by kernel_rfl) : Good C Q0 (.drw ops S L) K tm l := Good.drun h hs hm g
theorem Good.dend {S : World → Prop} (g : Good C Q0 (.ex .normal) K tm l) (hr : Region.ready .any ops (listedOf ops.size L) = [] := by kernel_rfl) : Good C Q0 (.drw ops S L) K tm l := Good.ddone hr g
/-- In a region that draws its order, the one operation that may come up. -/
theorem Good.done (i : Nat) (ho : ops[i]? = some o) (h : OpW C o tm l fun tm' l' => Good C Q0 (.drw ops noS (i :: L)) K tm' l') (hr : Region.ready .any ops (listedOf ops.size L) = [i] := by kernel_rfl) (hlt : Nat.blt L.length ops.size = true := by rfl) (hg : guardE (dsts ops) tm o.guard = some true := by rfl) : Good C Q0 (.drw ops noS L) K tm l := Good.done1 i ho hr hlt hg (fun Kk Q hK => h Kk Q fun tm' l' j => hK tm' l' ⟨fun _ _ => trivial, j⟩)
/-- The same where something is held: it is held behind it, too. -/
theorem Good.doneS {S : World → Prop} (i : Nat) (ho : ops[i]? = some o) (h : OpW C o tm l fun tm' l' => (∀ w, Sat C.W C.p l' w → S w) ∧ Good C Q0 (.drw ops S (i :: L)) K tm' l') (hr : Region.ready .any ops (listedOf ops.size L) = [i] := by kernel_rfl) (hlt : Nat.blt L.length ops.size = true := by rfl) (hg : guardE (dsts ops) tm o.guard = some true := by rfl) : Good C Q0 (.drw ops S L) K tm l := Good.done1 i ho hr hlt hg h
theorem Good.dval {S : World → Prop} (i : Nat) {v : Value} (ho : ops[i]? = some o) (h : Yv C tm o v) (kk : Good C Q0 (.drw ops S (i :: L)) K ((d, .v v) :: tm) l) (hs : Region.noSelect ops = true := by kernel_rfl) (hm : mayFirst ops L [i] = true := by kernel_rfl) (hg : guardE (dsts ops) tm o.guard = some true := by rfl) (hdst : o.dst = some d := by rfl) (hlt : Nat.blt d C.n = true := by rfl) : Good C Q0 (.drw ops S L) K tm l :=
  Good.dtake i v ho hs hm hg (dst_some hdst hlt) (fun a hA w _ => h a hA w) (by rw [put_some hdst]; exact kk)
/-- What is held is read at once. -/
theorem Good.dload {S : World → Prop} (i : Nat) {t : TypeId} {x : Operand} {it : TI} {ad : Addr} {v : Value} (ho : ops[i]? = some o) (hv : ∀ w, S w → w.cell? ad = some v) (kk : Good C Q0 (.drw ops S (i :: L)) K ((d, .v v) :: tm) l) (hop : o.op = .load t x := by rfl) (hi : C.T.get t = some it := by rfl) (hr : isRow it.desc = false := by rfl)
    (hx : opd tm x = some (.v (.pointer (some ad))) := by rfl) (hs : Region.noSelect ops = true := by kernel_rfl) (hm : mayFirst ops L [i] = true := by kernel_rfl) (hg : guardE (dsts ops) tm o.guard = some true := by rfl) (hdst : o.dst = some d := by rfl) (hlt : Nat.blt d C.n = true := by rfl) : Good C Q0 (.drw ops S L) K tm l :=
  Good.dtake i v ho hs hm hg (dst_some hdst hlt) (fun a hA w hw => by unfold execOp; simp [hop, hA.eval hx, Ent.val, Instr.loadAt, Instr.sureAddr, loadVar_one hi hr (hv w hw)]) (by rw [put_some hdst]; exact kk)
/-- A result that lies in memory. -/
theorem Res.row (n : Nat) {a : Tmp} {t : TypeId} {i : TI} {g k : Nat} {cs vs : List Value} {e : TypeId} (hx : tm.get a = some (.v (.pointer (some ⟨g, k, none⟩))) := by rfl) (hi : C.T.get t = some i := by rfl) (hr : isRow i.desc = true := by rfl) (hn : l[n]? = some (HP.row g cs e) := by rfl) (hv : takeL i.size (dropL k cs) = some vs := by rfl) : Res C tm l (.cell a t) (.agg vs.toArray) := fun ac w hA hS => by
  have hp := hA.get a _ hx
  obtain ⟨h1, h2⟩ := takeL_ok hv
  have hl := loadVar_row hi hr h1 (g := g) (k := k) (w := w) (fun j v hj => hS.cell n hn (by
    have := h2 j v hj
    rw [dropL_eq, List.getElem?_drop] at this
    exact this))
  have hg : ac.tmps.getD a undef = .pointer (some ⟨g, k, none⟩) := by rw [Array.getD_eq_getD_getElem?, hp]; rfl
  simp only [resOne, hg, asAddr, Sem.run_bind, Sem.run_pure, Result.andThen_ok, hl]
end
end Go.Proofs.YtnfcbpgckomdfaaDoor
