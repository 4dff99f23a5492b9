/- A builder's bytes: a row that the call owns, whose head may be frozen. For all of this seat's walks. -/
import Derived.Test.YtnfcbpgckomdfaaDoorTypes
import Derived.Lib.FrozenHead
import Derived.Lib.Builder
import Derived.Laws.Externs
namespace Go.Proofs.YtnfcbpgckomdfaaDoor
open Go.Lib (strCells)
/-- The bytes bs, as the slice value v owns them. -/
def bufF (e : TypeId) (v : Value) (bs : List UInt8) : HP := fun h =>
  (v = .slice none 0 0 ∧ bs = [] ∧ h = Hl.nil) ∨
  ∃ g cap rest fz, v = .slice (some ⟨g, 0, none⟩) bs.length cap ∧ 0 < cap ∧ bs.length + rest.length = cap ∧ cap ≤ maxLen ∧ fz.2 ≤ bs.length ∧ h = Hl.one g (.cells (strCells (str bs) ++ rest).toArray e fz)
theorem strCells_str (bs : List UInt8) : strCells (str bs) = bs.map fun b => Value.int .u8 b.toNat := rfl
theorem strCells_len (bs : List UInt8) : (strCells (str bs)).length = bs.length := by rw [strCells_str]; simp
theorem Sat.bufNil {W w : World} {p : Hl} {l : List HP} (e : TypeId) (s : Sat W p l w) : Sat W p (bufF e (.slice none 0 0) [] :: l) w := by
  obtain ⟨k, b, c⟩ := s
  exact ⟨k, ⟨Hl.nil, k, fun _ => .inl rfl, (Hl.nil_un k).symm, .inl ⟨rfl, rfl, rfl⟩, b⟩, c⟩
theorem Sat.bufOpen {W w : World} {p : Hl} {l : List HP} {e : TypeId} {v : Value} {bs : List UInt8} (s : Sat W p (bufF e v bs :: l) w) :
    (v = .slice none 0 0 ∧ bs = [] ∧ Sat W p l w) ∨
    ∃ g cap rest fz, v = .slice (some ⟨g, 0, none⟩) bs.length cap ∧ 0 < cap ∧ bs.length + rest.length = cap ∧ cap ≤ maxLen ∧ fz.2 ≤ bs.length ∧ Sat W p (HP.blk g (.cells (strCells (str bs) ++ rest).toArray e fz) :: l) w := by
  obtain ⟨k, ⟨h1, h2, d, e1, a, b⟩, c⟩ := s
  rcases a with ⟨a1, a2, a3⟩ | ⟨g, cap, rest, fz, a1, a2, a3, a4, a5, a6⟩
  · subst a3; rw [Hl.nil_un] at e1; subst e1; exact .inl ⟨a1, a2, k, b, c⟩
  · exact .inr ⟨g, cap, rest, fz, a1, a2, a3, a4, a5, k, ⟨h1, h2, d, e1, a6, b⟩, c⟩
theorem Sat.bufShut {W w : World} {p : Hl} {l : List HP} {e : TypeId} {bs : List UInt8} {g cap n : Nat} {rest : List Value} {fz : Nat × Nat} (hn : n = bs.length) (h1 : 0 < cap) (h2 : bs.length + rest.length = cap) (h3 : cap ≤ maxLen) (h4 : fz.2 ≤ bs.length)
    (s : Sat W p (HP.blk g (.cells (strCells (str bs) ++ rest).toArray e fz) :: l) w) : Sat W p (bufF e (.slice (some ⟨g, 0, none⟩) n cap) bs :: l) w := by
  subst hn
  exact s.weak fun _ a => .inr ⟨g, cap, rest, fz, rfl, h1, h2, h3, h4, a⟩
theorem Sat.bufIs {W w : World} {p : Hl} {l : List HP} {e : TypeId} {v : Value} {bs : List UInt8} (n : Nat) (s : Sat W p l w) (hn : l[n]? = some (bufF e v bs)) : ∃ q m c, v = .slice q m c := by
  rcases (s.front' n hn).bufOpen with ⟨h, _⟩ | ⟨g, cap, _, _, h, _⟩
  · exact ⟨_, _, _, h⟩
  · exact ⟨_, _, _, h⟩
theorem strCells_append (a b : List UInt8) : strCells (str (a ++ b)) = strCells (str a) ++ strCells (str b) := by simp [strCells_str]
/-- append(b, s...) -/
theorem bufAppend_run {C : Cx} {l : List HP} (n : Nat) {t u e : TypeId} {it iu ie : TI} (ht : C.T.get t = some it) (he : elemE it.desc = some e) (hu : C.T.get u = some iu) (hs : isStr iu.desc = true) (hi : C.T.get e = some ie) (h1 : ie.size = 1) (hb1 : ie.bytes = 1) (hz : ie.zero = .int .u8 0)
    {v : Value} {bs cs : List UInt8} (hn : l[n]? = some (bufF e v bs)) (hb : bs.length + cs.length ≤ 140737488355328) {w : World} (hS : Sat C.W C.p l w) (ty : TypeId) :
    ∃ v' w', (Builtin.append_ #[t, u] ty #[v, .string (str cs)]).run C.P w = .ok v' w' ∧ Sat C.W C.p (l.set n (bufF e v' (bs ++ cs))) w' := by
  obtain ⟨j, hj, hjs, hjb, hjz⟩ := (C.ok e ie hi).info
  have hut := (C.ok t it ht).under
  rw [elemE_ok he] at hut
  have huu := (C.ok u iu hu).under
  rw [isStr_ok hs] at huu
  rw [hz] at hjz
  have hzl : ∀ k, (Builtin.zeroCells (Value.int .u8 0).cells k).toList.length = k := fun k => by simp [Builtin.zeroCells, Value.cells]
  by_cases hc0 : cs = []
  · subst hc0
    rcases (hS.front' n hn).bufOpen with ⟨rfl, rfl, s⟩ | ⟨g, cap, rest, fz, rfl, a2, a3, a4, a5, s⟩
    · refine ⟨.slice none 0 0, w, ?_, ?_⟩
      · simp [Builtin.append_, run_underlying hut, run_underlying huu, sizeOf, typeInfo, hj, Builtin.lenOf, Builtin.firstCells]
      · exact Sat.back (A := bufF e (.slice none 0 0) []) (Sat.bufNil e s) hn
    · have hg := s.block 0 rfl
      have hr := Lib.run_append_room_stringF (P := C.P) w t u ty e j hut huu hj (hjs.trans h1) g bs.length cap _ fz hg a5 (str []) (by simp; omega) (by simp [strCells_len])
      refine ⟨_, _, hr, ?_⟩
      refine Sat.back ?_ hn
      have hw : (List.take bs.length (strCells (str bs) ++ rest).toArray.toList ++ strCells (str []) ++ List.drop (bs.length + (str []).size) (strCells (str bs) ++ rest).toArray.toList).toArray = (strCells (str bs) ++ rest).toArray := by
        have : strCells (str []) = [] := rfl
        simp [this]
      rw [hw, setRow_self w g _ e fz hg, List.append_nil]
      exact Sat.bufShut (by simp) a2 a3 a4 a5 s
  · have hcl : 0 < cs.length := List.length_pos_iff.2 hc0
    rcases (hS.front' n hn).bufOpen with ⟨rfl, rfl, s⟩ | ⟨g, cap, rest, fz, rfl, a2, a3, a4, a5, s⟩
    · simp only [List.length_nil, Nat.zero_add] at hb
      have hr := run_append_nil_string (P := C.P) w t u ty e j (.int .u8 0) hut huu hj hjz (str cs) (by simpa using hcl) (by simp; omega) (by rw [hjb, hb1]; simp; omega)
      refine ⟨_, _, hr, ?_⟩
      have hge := grownCap_ge w cs.length 0 e
      refine Sat.back (A := bufF e (.slice none 0 0) []) ?_ hn
      refine Sat.bufShut (fz := (0, 0)) (rest := (Builtin.zeroCells (Value.int .u8 0).cells (grownCap w cs.length 0 e - cs.length)).toList) (by simp) (by rw [str_size]; omega) ?_ (grownCap_le_maxLen w _ 0 e (by rw [str_size]; unfold maxLen; omega)) (Nat.zero_le _) ?_
      · rw [List.nil_append, hzl, str_size]; omega
      · have := (s.drewW).allocW (.cells ((str cs).data.map (fun b => Value.int .u8 b.toNat) ++ Builtin.zeroCells (Value.int .u8 0).cells (grownCap w (str cs).size 0 e - (str cs).size)) e)
        have e1 : (strCells (str ([] ++ cs)) ++ (Builtin.zeroCells (Value.int .u8 0).cells (grownCap w cs.length 0 e - cs.length)).toList).toArray = (str cs).data.map (fun b => Value.int .u8 b.toNat) ++ Builtin.zeroCells (Value.int .u8 0).cells (grownCap w (str cs).size 0 e - (str cs).size) := by
          apply Array.ext'; rw [str_size]; simp [strCells, str]
        rw [e1]; exact this
    · have hg := s.block 0 rfl
      by_cases hroom : bs.length + cs.length ≤ cap
      · have hr := Lib.run_append_room_stringF (P := C.P) w t u ty e j hut huu hj (hjs.trans h1) g bs.length cap _ fz hg a5 (str cs) (by simpa using hroom) (by simp [strCells_len]; omega)
        refine ⟨_, _, hr, ?_⟩
        refine Sat.back ?_ hn
        have hset := s.write 0 (g := g) rfl (w' := w.setRow g ((strCells (str bs) ++ rest).toArray.toList.take bs.length ++ strCells (str cs) ++ (strCells (str bs) ++ rest).toArray.toList.drop (bs.length + (str cs).size)).toArray) rfl rfl rfl (by simp [World.setRow]) (setRow_heap w g _ _ e fz hg) (fun b hb => setRow_other w g b _ hb)
        have e2 : ((strCells (str bs) ++ rest).toArray.toList.take bs.length ++ strCells (str cs) ++ (strCells (str bs) ++ rest).toArray.toList.drop (bs.length + (str cs).size)).toArray = (strCells (str (bs ++ cs)) ++ rest.drop cs.length).toArray := by
          have h3 := strCells_len bs
          rw [strCells_append]
          dsimp only
          congr 1
          rw [← h3, List.take_left, ← List.drop_drop, List.drop_left, str_size]
        rw [e2] at hset
        simp only [List.set_cons_zero] at hset
        refine Sat.bufShut (fz := fz) (rest := rest.drop cs.length) (by simp) a2 ?_ a4 ?_ ?_
        · rw [List.length_append, List.length_drop]; omega
        · rw [List.length_append]; omega
        · rw [e2]; exact hset
      · have holds : ∀ j u, (strCells (str bs))[j]? = some u → w.cell? ((⟨g, 0, none⟩ : Addr).add j) = some u := fun j u hu => by
          rw [addr_add]
          have := s.block 0 rfl
          simp only [World.cell?, this, Nat.zero_add]
          rw [List.getElem?_toArray, List.getElem?_append_left (List.getElem?_eq_some_iff.1 hu).1]; exact hu
        have hr := Lib.run_append_grow_string (P := C.P) w t u ty e j (.int .u8 0) hut huu hj hjz ⟨g, 0, none⟩ bs.length cap (strCells (str bs)) (by rw [hjs, h1, strCells_len, Nat.mul_one]) holds (str cs) (by simp; omega) (by simp; omega) (by rw [hjb, hb1]; exact growslice_fits (by simp; omega) (by simp; omega))
        refine ⟨_, _, hr, ?_⟩
        have hge := grownCap_ge w (bs.length + cs.length) cap e
        refine Sat.back ?_ hn
        refine Sat.bufShut (fz := (0, 0)) (rest := (Builtin.zeroCells (Value.int .u8 0).cells (grownCap w (bs.length + cs.length) cap e - (bs.length + cs.length))).toList) (by simp) (by rw [str_size]; omega) ?_ (grownCap_le_maxLen w _ cap e (by rw [str_size]; unfold maxLen; omega)) (Nat.zero_le _) ?_
        · rw [List.length_append, hzl, str_size]; omega
        · have := ((s.drewW).allocW (.cells ((strCells (str bs)).toArray ++ (strCells (str cs)).toArray ++ Builtin.zeroCells (Value.int .u8 0).cells (grownCap w (bs.length + (str cs).size) cap e - (bs.length + (str cs).size))) e)).second
          have e1 : (strCells (str (bs ++ cs)) ++ (Builtin.zeroCells (Value.int .u8 0).cells (grownCap w (bs.length + cs.length) cap e - (bs.length + cs.length))).toList).toArray = (strCells (str bs)).toArray ++ (strCells (str cs)).toArray ++ Builtin.zeroCells (Value.int .u8 0).cells (grownCap w (bs.length + (str cs).size) cap e - (bs.length + (str cs).size)) := by
            rw [strCells_append]; apply Array.ext'; simp
          rw [e1]; exact this
section
variable {C : Cx} {Q0 : Exit → Act → World → Prop} {K : List Fr} {tm : Tm} {l : List HP} {ops : Array Oper} {o : Oper} {os : List Oper} {d : Tmp} {J : Tm → List HP → Prop} {L : List Nat}
/-- What memory tells may be used. -/
theorem Good.know {X : Prop} {s : St} (h : ∀ w, Sat C.W C.p l w → X) (k : X → Good C Q0 s K tm l) : Good C Q0 s K tm l := by
  cases s <;> intro q
  · intro a w hA hS; exact k (h w hS) q a w hA hS
  · intro a w hA hS; exact k (h w hS) q a w hA hS
  · intro q' m hk a w hA hS; exact k (h w hS) q q' m hk a w hA hS
  · intro a w hA hS; exact k (h w hS) q a w hA hS
theorem OpW.bufAppend (n : Nat) {s x : Operand} {t u e : TypeId} {it iu ie : TI} {v : Value} {en : Ent} {bs cs : List UInt8} (ho : o.op = .call { callee := .builtin .append, args := #[s, x], argTypes := #[t, u] })
    (hs : opd tm s = some en) (hv : en.val = v) (hx : opd tm x = some (.v (.string (str cs)))) (hn : l[n]? = some (bufF e v bs)) (ht : C.T.get t = some it) (he : elemE it.desc = some e) (hu : C.T.get u = some iu) (hs' : isStr iu.desc = true) (hi : C.T.get e = some ie) (h1 : ie.size = 1) (hb1 : ie.bytes = 1) (hz : ie.zero = .int .u8 0)
    (hb : bs.length + cs.length ≤ 140737488355328) (hd : dstOk C.n o.dst = true) (k : ∀ v', J (tm.put o.dst v') (l.set n (bufF e v' (bs ++ cs)))) : OpW C o tm l J := fun Kk Q hK a w hA hS => by
  obtain ⟨v', w', hr, hS'⟩ := bufAppend_run n ht he hu hs' hi h1 hb1 hz hn hb hS o.type
  subst hv
  have hrun : (execOp a.eval o).run C.P w = .ok (.value v') w' := by
    unfold execOp
    have hx' : a.eval x = .string (str cs) := hA.eval hx
    simp only [ho, resolve, invoke, builtin, Sem.run_bind, Sem.run_pure, Result.andThen_ok, List.map_toArray, List.map_cons, List.map_nil, hA.eval hs, hx', hr]
  show o.wp C.P a w Kk Q
  unfold Oper.wp
  rw [hrun]
  exact hK _ _ (k v') _ _ (hA.put hd v') hS'
theorem Good.bufAppend (n : Nat) {s x : Operand} {t u e : TypeId} {it iu ie : TI} {v : Value} {en : Ent} {bs cs : List UInt8} (kk : ∀ v', Good C Q0 (.ops ops os) K ((d, .v v') :: tm) (l.set n (bufF e v' (bs ++ cs)))) (hb : bs.length + cs.length ≤ 140737488355328)
    (hg : guardE (dsts ops) tm o.guard = some true := by rfl) (hdst : o.dst = some d := by rfl) (hlt : Nat.blt d C.n = true := by rfl) (ho : o.op = .call { callee := .builtin .append, args := #[s, x], argTypes := #[t, u] } := by rfl)
    (hs : opd tm s = some en := by rfl) (hv : en.val = v := by rfl) (hx : opd tm x = some (.v (.string (str cs))) := by rfl) (hn : l[n]? = some (bufF e v bs) := by rfl) (ht : C.T.get t = some it := by rfl) (he : elemE it.desc = some e := by rfl) (hu : C.T.get u = some iu := by rfl) (hs' : isStr iu.desc = true := by rfl) (hi : C.T.get e = some ie := by rfl) (h1 : ie.size = 1 := by rfl) (hb1 : ie.bytes = 1 := by rfl) (hz : ie.zero = .int .u8 0 := by rfl) : Good C Q0 (.ops ops (o :: os)) K tm l :=
  Good.op hg (OpW.bufAppend n ho hs hv hx hn ht he hu hs' hi h1 hb1 hz hb (dst_some hdst hlt) fun v' => by rw [put_some hdst]; exact kk v')
def baseV : Value → Value
  | .slice (some a) _ _ => .pointer (some a)
  | _ => .pointer none
/-- unsafe.SliceData of a builder's bytes. -/
theorem Yv.sliceData {ts : Array TypeId} {x : Operand} {a : Addr} {n c : Nat} (ho : o.op = .call { callee := .builtin .unsafeSliceData, args := #[x], argTypes := ts }) (hx : opd tm x = some (.v (.slice (some a) n c))) (hc : 0 < c) : Yv C tm o (.pointer (some a)) := fun ac hA w => by
  have hx' : ac.eval x = .slice (some a) n c := hA.eval hx
  unfold execOp
  simp only [ho, resolve, invoke, builtin, Sem.run_bind, Sem.run_pure, Result.andThen_ok, List.map_toArray, List.map_cons, List.map_nil, hx', Lib.run_unsafeSliceData_row w ts o.type a n c (by omega)]
theorem Yv.sliceData0 {ts : Array TypeId} {x : Operand} {n c : Nat} (ho : o.op = .call { callee := .builtin .unsafeSliceData, args := #[x], argTypes := ts }) (hx : opd tm x = some (.v (.slice none n c))) : Yv C tm o (.pointer none) := fun ac hA w => by
  have hx' : ac.eval x = .slice none n c := hA.eval hx
  unfold execOp
  simp only [ho, resolve, invoke, builtin, Sem.run_bind, Sem.run_pure, Result.andThen_ok, List.map_toArray, List.map_cons, List.map_nil, hx', Lib.run_unsafeSliceData_nil w ts o.type n c]
theorem Yv.unsafeStr0 {pt it : TypeId} {x y : Operand} {p : Option Addr} (ho : o.op = .call { callee := .builtin .unsafeString, args := #[x, y], argTypes := #[pt, it] }) (hx : opd tm x = some (.v (.pointer p))) (hy : opd tm y = some (.v (.int .i64 0))) : Yv C tm o (.string (str [])) := fun ac hA w => by
  have hx' : ac.eval x = .pointer p := hA.eval hx
  have hy' : ac.eval y = .int .i64 0 := hA.eval hy
  unfold execOp
  simp only [ho, resolve, invoke, builtin, Sem.run_bind, Sem.run_pure, Result.andThen_ok, List.map_toArray, List.map_cons, List.map_nil, hx', hy', Lib.run_unsafeString_none w pt it o.type p]
  rfl
def ptrE : TypeDesc → Option TypeId
  | .pointer e => some e
  | _ => none
theorem ptrE_ok {d : TypeDesc} {e : TypeId} (h : ptrE d = some e) : d = .pointer e := by cases d <;> first | (simp [ptrE] at h; rw [h]) | cases h
theorem freeze_at {w : World} {g n : Nat} {cs : Array Value} {e : TypeId} {fz : Nat × Nat} (hg : w.heap[g]? = some (.cells cs e fz)) (hn : n ≠ 0) (hz : fz.2 ≤ n) : ∃ fz', fz'.2 ≤ n ∧ (w.freeze ⟨g, 0, none⟩ n).heap[g]? = some (.cells cs e fz') := by
  obtain ⟨lo, hi⟩ := fz
  simp only at hz
  refine ⟨if (lo == hi) = true then (0, 0 + n) else (min lo 0, max hi (0 + n)), ?_, ?_⟩
  · split
    · simp
    · simp only; omega
  · simp only [World.freeze, hn, if_false, Array.getElem?_modify, if_true, hg, Option.map_some]
/-- unsafe.String of a builder's bytes: the text; the bytes are frozen. -/
theorem OpW.unsafeStr (n : Nat) {pt it e : TypeId} {ip : TI} {x y : Operand} {g cap : Nat} {bs : List UInt8} (ho : o.op = .call { callee := .builtin .unsafeString, args := #[x, y], argTypes := #[pt, it] }) (hx : opd tm x = some (.v (.pointer (some ⟨g, 0, none⟩)))) (hy : opd tm y = some (.v (.int .i64 (bs.length : Int))))
    (hn : l[n]? = some (bufF e (.slice (some ⟨g, 0, none⟩) bs.length cap) bs)) (h0 : bs ≠ []) (hp : C.T.get pt = some ip) (hpe : ptrE ip.desc = some e) (hc : C.P.cellsOf e = 1) (hl : bs.length ≤ 140737488355328) (hd : dstOk C.n o.dst = true) (k : J (tm.put o.dst (.string (str bs))) l) : OpW C o tm l J := fun Kk Q hK a w hA hS => by
  have hx' : a.eval x = .pointer (some ⟨g, 0, none⟩) := hA.eval hx
  have hy' : a.eval y = .int .i64 (bs.length : Int) := hA.eval hy
  have hu := (C.ok pt ip hp).under
  rw [ptrE_ok hpe] at hu
  rcases (hS.front' n hn).bufOpen with ⟨h, _⟩ | ⟨g', cap', rest, fz, h, a2, a3, a4, a5, s⟩
  · cases h
  · cases h
    have hg := s.block 0 rfl
    have hcell : ∀ j u, bs[j]? = some u → w.cell? ((⟨g, 0, none⟩ : Addr).add j) = some (.int .u8 u.toNat) := fun j u hj => by
      rw [addr_add]
      simp only [World.cell?, hg, Nat.zero_add]
      have hj' : (strCells (str bs))[j]? = some (.int .u8 u.toNat) := by rw [strCells_str]; simp [hj]
      rw [List.getElem?_toArray, List.getElem?_append_left (List.getElem?_eq_some_iff.1 hj').1]; exact hj'
    have hr := Lib.run_unsafeString_row (P := C.P) w pt it o.type e hu hc g (strCells (str bs) ++ rest).toArray.size (by simp [World.shape?, hg]) bs h0 (by simp [strCells_len]) (by omega) hcell
    obtain ⟨fz', hz', hg'⟩ := freeze_at hg (n := bs.length) (by simpa using h0) a5
    have hset := s.write 0 (g := g) rfl (w' := w.freeze ⟨g, 0, none⟩ bs.length) (by unfold World.freeze; split <;> rfl) (by unfold World.freeze; split <;> rfl) (by unfold World.freeze; split <;> rfl) (by unfold World.freeze; split <;> simp) hg' (fun b hb => by
      unfold World.freeze; split
      · rfl
      · simp only [Array.getElem?_modify]; rw [if_neg (fun e => hb e.symm)])
    simp only [List.set_cons_zero] at hset
    have hback := Sat.back (Sat.bufShut (n := bs.length) rfl a2 a3 a4 hz' hset) hn
    rw [show l.set n (bufF e (.slice (some ⟨g, 0, none⟩) bs.length cap) bs) = l from by
      obtain ⟨h1, h2⟩ := List.getElem?_eq_some_iff.1 hn
      rw [← h2]; exact List.set_getElem_self h1] at hback
    have hrun : (execOp a.eval o).run C.P w = .ok (.value (.string (str bs))) (w.freeze ⟨g, 0, none⟩ bs.length) := by
      unfold execOp
      simp only [ho, resolve, invoke, builtin, Sem.run_bind, Sem.run_pure, Result.andThen_ok, List.map_toArray, List.map_cons, List.map_nil, hx', hy', hr]
      rfl
    show o.wp C.P a w Kk Q
    unfold Oper.wp
    rw [hrun]
    exact hK _ _ k _ _ (hA.put hd _) hback
/-- A call of an entry that is no function of the program's: internal/abi.NoEscape. -/
theorem Yv.noEscape {f : FuncId} {fn : Func} {x : Operand} {ts : Array TypeId} {v : Value} (hf : C.P.funcs[f]? = some fn) (hname : (fn.name == "runtime.NumGoroutine") = false) (hb : fn.body.isNone = true) (hn : Extern.findNext fn = none) (he : Extern.find fn = some Extern.AbiNoEscape.same)
    (ho : o.op = .call { callee := .value (.func f), args := #[x], argTypes := ts }) (hx : opd tm x = some (.v v)) : Yv C tm o v := fun ac hA w => by
  have hx' : ac.eval x = v := hA.eval hx
  have hf' : ac.eval (.func f) = .func (.func f) #[] #[] := rfl
  unfold execOp
  simp only [ho, resolve, Deferred.ofValue, invoke, Sem.run_bind, Sem.run_pure, Result.andThen_ok, List.map_toArray, List.map_cons, List.map_nil, hf', hx']
  rw [show (#[] ++ #[v] ++ #[] : Array Value) = #[v] from rfl, run_callFunc_extern hf hname hb hn he]
  rfl
/-- A pointer to a block of the call's own, turned to unsafe.Pointer and back. -/
theorem OpW.toUnsafe (n : Nat) {t t' e et : TypeId} {i i' ie : TI} {x : Operand} {g : Nat} {cs : List Value} (ho : o.op = .convert t t' x) (hx : opd tm x = some (.v (.pointer (some ⟨g, 0, none⟩)))) (hn : l[n]? = some (HP.row g cs et)) (hlt : 0 < cs.length) (ht : C.T.get t = some i) (hp : ptrE i.desc = some e) (ht' : C.T.get t' = some i') (hu : i'.desc = .unsafePointer) (he : C.T.get e = some ie) (hz : ie.size ≠ 0) (hd : dstOk C.n o.dst = true)
    (k : J (tm.put o.dst (.pointer (some ⟨g, 0, none⟩))) l) : OpW C o tm l J := OpW.yields _ hd (fun a w hA hS => by
  have h1 := (C.ok t i ht).under
  rw [ptrE_ok hp] at h1
  have h2 := (C.ok t' i' ht').under
  rw [hu] at h2
  obtain ⟨j, hj, hjs, _, _⟩ := (C.ok e ie he).info
  have hr := Lib.run_to_unsafe w ⟨g, 0, none⟩ h1 h2 hj (by rw [hjs]; exact hz) (e := et) (cells := cs.length) (by simp [World.shape?, hS.block n hn]) hlt
  have hx' : a.eval x = .pointer (some ⟨g, 0, none⟩) := hA.eval hx
  unfold execOp
  simp only [ho, hx', Sem.run_bind, hr, Result.andThen_ok, Sem.run_pure]) k
theorem OpW.fromUnsafe (n : Nat) {t t' e et : TypeId} {i i' ie : TI} {x : Operand} {g : Nat} {cs : List Value} (ho : o.op = .convert t t' x) (hx : opd tm x = some (.v (.pointer (some ⟨g, 0, none⟩)))) (hn : l[n]? = some (HP.row g cs et)) (hlies : liesAt C.P C.P.depth et (cs.length / C.P.cellsOf et) 0 e 1 = true) (ht : C.T.get t = some i) (hp : i.desc = .unsafePointer) (ht' : C.T.get t' = some i') (hu : ptrE i'.desc = some e) (he : C.T.get e = some ie) (hd : dstOk C.n o.dst = true)
    (k : J (tm.put o.dst (.pointer (some ⟨g, 0, none⟩))) l) : OpW C o tm l J := OpW.yields _ hd (fun a w hA hS => by
  have h1 := (C.ok t i ht).under
  rw [hp] at h1
  have h2 := (C.ok t' i' ht').under
  rw [ptrE_ok hu] at h2
  obtain ⟨j, hj, hjs, _, _⟩ := (C.ok e ie he).info
  have hr := Lib.run_from_unsafe w ⟨g, 0, none⟩ h1 h2 hj (e := et) (cells := cs.length) (by simp [World.shape?, hS.block n hn]) hlies
  have hx' : a.eval x = .pointer (some ⟨g, 0, none⟩) := hA.eval hx
  unfold execOp
  simp only [ho, hx', Sem.run_bind, hr, Result.andThen_ok, Sem.run_pure]) k
theorem run_eql_nil {P : Program} (w : World) {x y : Operand} {tp te : TypeId} (p : Option Addr) (hp : P.underlying tp = some (.pointer te)) : (do eqGuard .eql tp x y (.pointer p) (.pointer none); binOp .eql tp (.pointer p) (.pointer none) : Sem Value).run P w = .ok (.bool p.isNone) w := by
  have h : ∀ d : Nat, (Op.equalIn (d + 1) tp (.pointer p) (.pointer none)).run P w = .ok p.isNone w := fun d => by
    cases p <;> simp [Op.equalIn, run_underlying hp]
  have hg : eqGuard .eql tp x y (.pointer p) (.pointer none) = Pure.pure () := by unfold eqGuard; rfl
  simp only [hg, binOp, Sem.run_bind, Sem.run_pure, Result.andThen_ok]
  simp [Op.equal, Op.maxDepth, h 9999]
/-- Pointers held against each other. -/
theorem Yv.ptrNil {t t' : TypeId} {i : TI} {e : TypeId} {x y : Operand} {p : Option Addr} (ho : o.op = .binOp .eql t x y t') (hx : opd tm x = some (.v (.pointer p))) (hy : opd tm y = some (.v (.pointer none))) (ht : C.T.get t = some i) (hp : ptrE i.desc = some e) : Yv C tm o (.bool p.isNone) := fun a hA w => by
  have h1 := (C.ok t i ht).under
  rw [ptrE_ok hp] at h1
  have hx' : a.eval x = .pointer p := hA.eval hx
  have hy' : a.eval y = .pointer none := hA.eval hy
  unfold execOp
  simp only [ho, hx', hy']
  have := run_eql_nil (x := x) (y := y) w p h1
  simp only [Sem.run_bind] at this ⊢
  simp only [this, Result.andThen_ok, Sem.run_pure]
theorem Yv.ptrNeSame {t t' : TypeId} {i ie : TI} {e : TypeId} {x y : Operand} {p : Addr} (ho : o.op = .binOp .neq t x y t') (hx : opd tm x = some (.v (.pointer (some p)))) (hy : opd tm y = some (.v (.pointer (some p)))) (ht : C.T.get t = some i) (hp : ptrE i.desc = some e) (he : C.T.get e = some ie) : Yv C tm o (.bool false) := fun a hA w => by
  have h1 := (C.ok t i ht).under
  rw [ptrE_ok hp] at h1
  obtain ⟨j, hj, _⟩ := (C.ok e ie he).info
  have hx' : a.eval x = .pointer (some p) := hA.eval hx
  have hy' : a.eval y = .pointer (some p) := hA.eval hy
  unfold execOp
  simp only [ho, hx', hy']
  simp [eqGuard, Lib.run_neq_ptr_same w p h1 hj]
end
end Go.Proofs.YtnfcbpgckomdfaaDoor
