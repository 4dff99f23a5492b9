/- More rules: facts that stay, calls that are handed several parts, texts gone through sign by sign, bytes of rows, interface values. For all of this seat's walks. -/
import Derived.Test.YtnfcbpgckomdfaaDoorRdG
import Derived.Lib.OthersKept
import Derived.Lib.FrozenHead2
import Derived.Laws.RangeString
import Derived.Laws.RangeAny
import Derived.Laws.MakeOwn
namespace Go.Proofs.YtnfcbpgckomdfaaDoor
open Go.Lib (strCells)

/-! ## facts that stay -/
/-- What is told of memory that a call is not handed: it holds for what is called, too. -/
def Stays (F : World → Hl → Prop) : Prop := ∀ W w p q r, F W p → Upd W p (q.un r) w → F w q
theorem stays_none : Stays noFacts := fun _ _ _ _ _ _ _ => trivial
theorem Stays.and {F G : World → Hl → Prop} (f : Stays F) (g : Stays G) : Stays fun W p => F W p ∧ G W p := fun W w p q r h u => ⟨f W w p q r h.1 u, g W w p q r h.2 u⟩
theorem stays_rd (v : Value) (n : Nat) (xs : List Value) : Stays (Rd v n xs) := fun _ _ _ _ _ h u => h.on u
theorem Spec.facts {P : Program} {f : FuncId} {args : Array Value} {F G : World → Hl → Prop} {pre : List HP} {R : Value → List HP → Prop} (S : Spec P f args F pre R) (h : ∀ W p, G W p → F W p) : Spec P f args G pre R := fun W p s l g => S W p s l (h W p g)
theorem Spec.mono {P : Program} {f : FuncId} {args : Array Value} {F : World → Hl → Prop} {pre : List HP} {R R' : Value → List HP → Prop} (S : Spec P f args F pre R) (h : ∀ v L, R v L → R' v L) : Spec P f args F pre R' := fun W p s l g => (S W p s l g).mono fun _ _ ⟨v, L, a, b, c⟩ => ⟨v, L, a, h v L b, c⟩
def pull : List Nat → List HP → Option (List HP × List HP)
  | [], l => some ([], l)
  | i :: is, l => match l[i]? with
    | some A => match pull is (l.eraseIdx i) with
      | some (pre, fr) => some (A :: pre, fr)
      | none => none
    | none => none
theorem pull_perm : ∀ {is : List Nat} {l pre fr : List HP}, pull is l = some (pre, fr) → l.Perm (pre ++ fr)
  | [], l, pre, fr, h => by simp [pull] at h; obtain ⟨rfl, rfl⟩ := h; exact List.Perm.refl _
  | i :: is, l, pre, fr, h => by
    simp only [pull] at h
    split at h <;> try (cases h; done)
    rename_i A hA
    split at h <;> try (cases h; done)
    rename_i p f hp
    simp at h; obtain ⟨rfl, rfl⟩ := h
    exact (perm_front l i A hA).trans (List.Perm.cons A (pull_perm hp))
theorem Sat.dropL {W w : World} {p : Hl} : ∀ {L l : List HP}, Sat W p (L ++ l) w → Sat W p l w
  | [], _, h => h
  | _ :: L, _, h => Sat.dropL (L := L) (Sat.tail h)
section
variable {C : Cx} {Q0 : Exit → Act → World → Prop} {K : List Fr} {tm : Tm} {l : List HP} {ops : Array Oper} {o : Oper} {os : List Oper} {d : Tmp} {J : Tm → List HP → Prop} {L : List Nat}
/-- A call that is handed the parts is, where what it leans on stays. -/
theorem OpW.callK (is : List Nat) {f : FuncId} {xs : List Operand} {ats : Array TypeId} {vs : List Value} {F : World → Hl → Prop} {pre fr : List HP} {R : Value → List HP → Prop} (S : Spec C.P f vs.toArray F pre R) (st : Stays F) (hF : F C.W C.p) (hc : CallOk C.P f)
    (ho : o.op = .call { callee := .value (.func f), args := xs.toArray, argTypes := ats }) (hd : dstOk C.n o.dst = true) (ha : opds tm xs = some vs) (hp : pull is l = some (pre, fr)) (k : ∀ v L, R v L → J (tm.put o.dst v) (L ++ fr)) : OpW C o tm l J :=
  OpW.call S hc ho hd ha (pull_perm hp) (fun _ _ _ _ _ _ u => st _ _ _ _ _ hF u) k
theorem Good.callK (is : List Nat) {f : FuncId} {xs : List Operand} {ats : Array TypeId} {vs : List Value} {F : World → Hl → Prop} {pre fr : List HP} {R : Value → List HP → Prop} (S : Spec C.P f vs.toArray F pre R) (st : Stays F) (hF : F C.W C.p) (hc : CallOk C.P f) (kk : ∀ v L, R v L → Good C Q0 (.ops ops os) K ((d, .v v) :: tm) (L ++ fr))
    (hp : pull is l = some (pre, fr) := by rfl) (hg : guardE (dsts ops) tm o.guard = some true := by rfl) (hdst : o.dst = some d := by rfl) (hlt : Nat.blt d C.n = true := by rfl) (ho : o.op = .call { callee := .value (.func f), args := xs.toArray, argTypes := ats } := by rfl) (ha : opds tm xs = some vs := by rfl) : Good C Q0 (.ops ops (o :: os)) K tm l :=
  Good.op hg (OpW.callK is S st hF hc ho (dst_some hdst hlt) ha hp fun v L h => by rw [put_some hdst]; exact kk v L h)
/-- The same where nothing is leaned on. -/
theorem Good.callP (is : List Nat) {f : FuncId} {xs : List Operand} {ats : Array TypeId} {vs : List Value} {pre fr : List HP} {R : Value → List HP → Prop} (S : Spec C.P f vs.toArray noFacts pre R) (hc : CallOk C.P f) (kk : ∀ v L, R v L → Good C Q0 (.ops ops os) K ((d, .v v) :: tm) (L ++ fr))
    (hp : pull is l = some (pre, fr) := by rfl) (hg : guardE (dsts ops) tm o.guard = some true := by rfl) (hdst : o.dst = some d := by rfl) (hlt : Nat.blt d C.n = true := by rfl) (ho : o.op = .call { callee := .value (.func f), args := xs.toArray, argTypes := ats } := by rfl) (ha : opds tm xs = some vs := by rfl) : Good C Q0 (.ops ops (o :: os)) K tm l :=
  Good.callK is S stays_none trivial hc kk hp hg hdst hlt ho ha

/-! ## texts, sign by sign -/
/-- Where one is in a text that is gone through. -/
def iter (g : Nat) (bs : List UInt8) (pos : Nat) : HP := HP.blk g (.stringIter (str bs) pos)
theorem Good.range {t : TypeId} {x : Operand} {i : TI} {bs : List UInt8} (kk : ∀ g, Good C Q0 (.ops ops os) K ((d, .v (.pointer (some ⟨g, 0, none⟩))) :: tm) (iter g bs 0 :: l)) (hg : guardE (dsts ops) tm o.guard = some true := by rfl) (ho : o.op = .range t x := by rfl) (hdst : o.dst = some d := by rfl) (hlt : Nat.blt d C.n = true := by rfl)
    (hi : C.T.get t = some i := by rfl) (hs : isStr i.desc = true := by rfl) (hx : opd tm x = some (.v (.string (str bs))) := by rfl) : Good C Q0 (.ops ops (o :: os)) K tm l :=
  Good.op hg fun Kk Q hK a w hA hS => by
    have hu := (C.ok t i hi).under
    rw [isStr_ok hs] at hu
    have hx' : a.eval x = .string (str bs) := hA.eval hx
    have hr := run_range_string (P := C.P) w t (str bs) hu
    have hrun : (execOp a.eval o).run C.P w = .ok (.value (.pointer (some ⟨w.heap.size, 0, none⟩))) (w.iter (str bs) 0) := by
      unfold execOp
      simp only [ho, hx', Sem.run_bind, hr, Result.andThen_ok, Sem.run_pure]
    show o.wp C.P a w Kk Q
    unfold Oper.wp
    rw [hrun]
    exact hK ((d, .v (.pointer (some ⟨w.heap.size, 0, none⟩))) :: tm) (iter w.heap.size bs 0 :: l) (kk w.heap.size) _ _ (by have := hA.put (dst_some hdst hlt) (.pointer (some ⟨w.heap.size, 0, none⟩)); rwa [put_some hdst] at this) (hS.allocW _)
theorem Good.next (n : Nat) {x : Operand} {g pos : Nat} {bs : List UInt8} {l' : List HP} (hpos : pos < bs.length) (kk : Good C Q0 (.ops ops os) K ((d, .v (.tuple #[.bool true, .int .i64 pos, .int .i32 (Utf8.decode (str bs) pos).1])) :: tm) l') (hg : guardE (dsts ops) tm o.guard = some true := by rfl) (ho : o.op = .next x true := by rfl) (hdst : o.dst = some d := by rfl) (hlt : Nat.blt d C.n = true := by rfl)
    (hx : opd tm x = some (.v (.pointer (some ⟨g, 0, none⟩))) := by rfl) (hn : l[n]? = some (iter g bs pos) := by rfl) (hl : l.set n (iter g bs (pos + (Utf8.decode (str bs) pos).2)) = l' := by first | (dsimp only [List.set]; done) | rfl) : Good C Q0 (.ops ops (o :: os)) K tm l :=
  Good.op hg fun Kk Q hK a w hA hS => by
    have hx' : a.eval x = .pointer (some ⟨g, 0, none⟩) := hA.eval hx
    have hk := hS.block n hn
    have hr := Lib.run_next_any_at (P := C.P) w g (str bs) pos o.type hk (by simpa using hpos)
    have hrun : (execOp a.eval o).run C.P w = .ok (.value (.tuple #[.bool true, .int .i64 pos, .int .i32 (Utf8.decode (str bs) pos).1])) (w.iterAt g (str bs) (pos + (Utf8.decode (str bs) pos).2)) := by
      unfold execOp
      simp only [ho, hx', Sem.run_bind, hr, Result.andThen_ok, Sem.run_pure]
    have hw := hS.write n hn (w' := w.iterAt g (str bs) (pos + (Utf8.decode (str bs) pos).2)) (o' := .stringIter (str bs) (pos + (Utf8.decode (str bs) pos).2)) rfl rfl rfl (Lib.iterAt_size _ _ _ _) (Lib.iterAt_heap _ _ _ _ _ hk) (fun b hb => Lib.iterAt_other _ _ _ _ _ hb)
    show o.wp C.P a w Kk Q
    unfold Oper.wp
    rw [hrun]
    exact hK ((d, .v (.tuple #[.bool true, .int .i64 pos, .int .i32 (Utf8.decode (str bs) pos).1])) :: tm) l' kk _ _ (by have := hA.put (dst_some hdst hlt) (.tuple #[.bool true, .int .i64 pos, .int .i32 (Utf8.decode (str bs) pos).1]); rwa [put_some hdst] at this) (by rw [← hl]; exact hw)
theorem Good.nextEnd (n : Nat) {x : Operand} {g pos : Nat} {bs : List UInt8} (hpos : bs.length ≤ pos) (kk : Good C Q0 (.ops ops os) K ((d, .v (.tuple #[.bool false])) :: tm) l) (hg : guardE (dsts ops) tm o.guard = some true := by rfl) (ho : o.op = .next x true := by rfl) (hdst : o.dst = some d := by rfl) (hlt : Nat.blt d C.n = true := by rfl)
    (hx : opd tm x = some (.v (.pointer (some ⟨g, 0, none⟩))) := by rfl) (hn : l[n]? = some (iter g bs pos) := by rfl) : Good C Q0 (.ops ops (o :: os)) K tm l :=
  Good.op hg (OpW.yields (.tuple #[.bool false]) (dst_some hdst hlt) (fun a w hA hS => by
    have hx' : a.eval x = .pointer (some ⟨g, 0, none⟩) := hA.eval hx
    have hr := Lib.run_next_end_at (P := C.P) w g (str bs) pos o.type (hS.block n hn) (by simpa using hpos)
    unfold execOp
    simp only [ho, hx', Sem.run_bind, hr, Result.andThen_ok, Sem.run_pure]) (by rw [put_some hdst]; exact kk))

/-! ## bytes pushed behind a builder's -/
theorem bufPush_run {C : Cx} {l : List HP} (n : Nat) {t e : TypeId} {it ie : TI} (ht : C.T.get t = some it) (he : elemE it.desc = some e) (hi : C.T.get e = some ie) (h1 : ie.size = 1) (hb1 : ie.bytes = 1) (hz : ie.zero = .int .u8 0)
    {v : Value} {bs cs : List UInt8} (hn : l[n]? = some (bufF e v bs)) (hb : bs.length + cs.length ≤ 140737488355328) (hc0 : cs ≠ []) {ad : Addr} {c : Nat} {w : World} (hS : Sat C.W C.p l w) (hnews : ∀ j u, (strCells (str cs))[j]? = some u → w.cell? (ad.add j) = some u) (ty : TypeId) :
    ∃ v' w', (Builtin.append_ #[t, t] ty #[v, .slice (some ad) cs.length c]).run C.P w = .ok v' w' ∧ Sat C.W C.p (l.set n (bufF e v' (bs ++ cs))) w' := by
  obtain ⟨j, hj, hjs, hjb, hjz⟩ := (C.ok e ie hi).info
  have hut := (C.ok t it ht).under
  rw [elemE_ok he] at hut
  rw [hz] at hjz
  have hone : ∀ u ∈ strCells (str cs), u.oneCell' = true := fun u hu => by
    rw [strCells_str] at hu; obtain ⟨b, _, rfl⟩ := List.mem_map.1 hu; rfl
  have hzl : ∀ k, (Builtin.zeroCells (Value.int .u8 0).cells k).toList.length = k := fun k => by simp [Builtin.zeroCells, Value.cells]
  have hl' : (strCells (str cs)).length = cs.length * j.size := by rw [strCells_len, hjs, h1, Nat.mul_one]
  have hcl : 0 < cs.length := List.length_pos_iff.2 hc0
  rcases (hS.front' n hn).bufOpen with ⟨rfl, rfl, s⟩ | ⟨g, cap, rest, fz, rfl, a2, a3, a4, a5, s⟩
  · simp only [List.length_nil, Nat.zero_add] at hb
    have hr := run_append_nil (P := C.P) w t ty e j (.int .u8 0) hut hj hjz ad cs.length c (strCells (str cs)) hl' hnews hcl (by omega) (by rw [hjb, hb1]; omega)
    refine ⟨_, _, hr, ?_⟩
    have hge := grownCap_ge w cs.length 0 e
    refine Sat.back (A := bufF e (.slice none 0 0) []) ?_ hn
    refine Sat.bufShut (fz := (0, 0)) (rest := (Builtin.zeroCells (Value.int .u8 0).cells (grownCap w cs.length 0 e - cs.length)).toList) (by simp) (by omega) ?_ (grownCap_le_maxLen w _ 0 e (by unfold maxLen; omega)) (Nat.zero_le _) ?_
    · rw [List.nil_append, hzl]; omega
    · have := (s.drewW).allocW (.cells ((strCells (str cs)).toArray ++ Builtin.zeroCells (Value.int .u8 0).cells (grownCap w cs.length 0 e - cs.length)) e)
      have e1 : (strCells (str ([] ++ cs)) ++ (Builtin.zeroCells (Value.int .u8 0).cells (grownCap w cs.length 0 e - cs.length)).toList).toArray = (strCells (str cs)).toArray ++ Builtin.zeroCells (Value.int .u8 0).cells (grownCap w cs.length 0 e - cs.length) := by
        apply Array.ext'; simp
      rw [e1]; exact this
  · have hg := s.block 0 rfl
    by_cases hroom : bs.length + cs.length ≤ cap
    · have hr := run_append_roomF (P := C.P) w t ty e j hut hj g bs.length cap _ fz hg (by rw [hjs, h1, Nat.mul_one]; exact a5) ad cs.length c (strCells (str cs)) hl' hnews hone hroom (by rw [hjs, h1, Nat.mul_one]; simp [strCells_len]; omega)
      rw [hjs, h1, Nat.mul_one, strCells_len cs] at hr
      refine ⟨_, _, hr, ?_⟩
      refine Sat.back ?_ hn
      have hset := s.write 0 (g := g) rfl (w' := w.setRow g ((strCells (str bs) ++ rest).toArray.toList.take bs.length ++ strCells (str cs) ++ (strCells (str bs) ++ rest).toArray.toList.drop (bs.length + cs.length)).toArray) rfl rfl rfl (by simp [World.setRow]) (setRow_heap w g _ _ e fz hg) (fun b hb => setRow_other w g b _ hb)
      have e2 : ((strCells (str bs) ++ rest).toArray.toList.take bs.length ++ strCells (str cs) ++ (strCells (str bs) ++ rest).toArray.toList.drop (bs.length + cs.length)).toArray = (strCells (str (bs ++ cs)) ++ rest.drop cs.length).toArray := by
        have h3 := strCells_len bs
        rw [strCells_append]
        dsimp only
        congr 1
        rw [← h3, List.take_left, ← List.drop_drop, List.drop_left]
      rw [e2] at hset
      simp only [List.set_cons_zero] at hset
      refine Sat.bufShut (fz := fz) (rest := rest.drop cs.length) (by simp) a2 ?_ a4 ?_ ?_
      · rw [List.length_append, List.length_drop]; omega
      · rw [List.length_append]; omega
      · rw [e2]; exact hset
    · have holds : ∀ j u, (strCells (str bs))[j]? = some u → w.cell? ((⟨g, 0, none⟩ : Addr).add j) = some u := fun j u hu => by
        rw [addr_add]
        have := s.block 0 rfl
        simp only [World.cell?, this, Nat.zero_add]
        rw [List.getElem?_toArray, List.getElem?_append_left (List.getElem?_eq_some_iff.1 hu).1]; exact hu
      have hr := run_append_grow (P := C.P) w t ty e j (.int .u8 0) hut hj hjz ⟨g, 0, none⟩ bs.length cap (strCells (str bs)) (by rw [hjs, h1, strCells_len, Nat.mul_one]) holds ad cs.length c (strCells (str cs)) hl' hnews (by omega) (by omega) (by rw [hjb, hb1]; exact growslice_fits (by omega) (by omega))
      refine ⟨_, _, hr, ?_⟩
      have hge := grownCap_ge w (bs.length + cs.length) cap e
      refine Sat.back ?_ hn
      refine Sat.bufShut (fz := (0, 0)) (rest := (Builtin.zeroCells (Value.int .u8 0).cells (grownCap w (bs.length + cs.length) cap e - (bs.length + cs.length))).toList) (by simp) (by omega) ?_ (grownCap_le_maxLen w _ cap e (by unfold maxLen; omega)) (Nat.zero_le _) ?_
      · rw [List.length_append, hzl]; omega
      · have := ((s.drewW).allocW (.cells ((strCells (str bs)).toArray ++ (strCells (str cs)).toArray ++ Builtin.zeroCells (Value.int .u8 0).cells (grownCap w (bs.length + cs.length) cap e - (bs.length + cs.length))) e)).second
        have e1 : (strCells (str (bs ++ cs)) ++ (Builtin.zeroCells (Value.int .u8 0).cells (grownCap w (bs.length + cs.length) cap e - (bs.length + cs.length))).toList).toArray = (strCells (str bs)).toArray ++ (strCells (str cs)).toArray ++ Builtin.zeroCells (Value.int .u8 0).cells (grownCap w (bs.length + cs.length) cap e - (bs.length + cs.length)) := by
          rw [strCells_append]; apply Array.ext'; simp
        rw [e1]; exact this
theorem OpW.bufAppendS (n : Nat) {s x : Operand} {t e : TypeId} {it ie : TI} {v : Value} {en : Ent} {bs cs : List UInt8} {ad : Addr} {c m : Nat} (ho : o.op = .call { callee := .builtin .append, args := #[s, x], argTypes := #[t, t] })
    (hs : opd tm s = some en) (hv : en.val = v) (hx : opd tm x = some (.v (.slice (some ad) m c))) (hm : m = cs.length) (hn : l[n]? = some (bufF e v bs)) (ht : C.T.get t = some it) (he : elemE it.desc = some e) (hi : C.T.get e = some ie) (h1 : ie.size = 1) (hb1 : ie.bytes = 1) (hz : ie.zero = .int .u8 0)
    (hb : bs.length + cs.length ≤ 140737488355328) (hc0 : cs ≠ []) (hnews : ∀ w, Sat C.W C.p l w → ∀ j u, (strCells (str cs))[j]? = some u → w.cell? (ad.add j) = some u) (hd : dstOk C.n o.dst = true) (k : ∀ v', J (tm.put o.dst v') (l.set n (bufF e v' (bs ++ cs)))) : OpW C o tm l J := fun Kk Q hK a w hA hS => by
  subst hm
  obtain ⟨v', w', hr, hS'⟩ := bufPush_run n ht he hi h1 hb1 hz hn hb hc0 hS (hnews w hS) o.type (c := c)
  subst hv
  have hrun : (execOp a.eval o).run C.P w = .ok (.value v') w' := by
    unfold execOp
    have hx' : a.eval x = .slice (some ad) cs.length c := hA.eval hx
    simp only [ho, resolve, invoke, builtin, Sem.run_bind, Sem.run_pure, Result.andThen_ok, List.map_toArray, List.map_cons, List.map_nil, hA.eval hs, hx', hr]
  show o.wp C.P a w Kk Q
  unfold Oper.wp
  rw [hrun]
  exact hK _ _ (k v') _ _ (hA.put hd v') hS'
/-- append(s, x): bytes that are written out, behind a builder's. -/
theorem Good.bufPush (n : Nat) (cs : List UInt8) {o1 o2 : Oper} {d1 d2 : Tmp} {s : Operand} {t e : TypeId} {it ie : TI} {v : Value} {bs : List UInt8} {m : Nat} {ps : List (Nat × Operand)} {u : Ent}
    (kk : ∀ g v', Good C Q0 (.ops ops os) K ((d2, .v v') :: (d1, .v (.slice (some ⟨g, 0, none⟩) m m)) :: tm) (l.set n (bufF e v' (bs ++ cs)))) (hb : bs.length + cs.length ≤ 140737488355328) (hc0 : cs ≠ []) (hm : m = cs.length) (hlit : litE C.T tm t m ps = some (e, strCells (str cs)))
    (hg1 : guardE (dsts ops) tm o1.guard = some true := by rfl) (hd1 : o1.dst = some d1 := by rfl) (hlt1 : Nat.blt d1 C.n = true := by rfl) (ho1 : o1.op = .buildSlice t m ps.toArray := by rfl)
    (hg2 : o2.guard = none := by rfl) (hd2 : o2.dst = some d2 := by rfl) (hlt2 : Nat.blt d2 C.n = true := by rfl) (ho2 : o2.op = .call { callee := .builtin .append, args := #[s, .tmp d1], argTypes := #[t, t] } := by rfl)
    (ht : C.T.get t = some it := by rfl) (he : elemE it.desc = some e := by rfl) (hi : C.T.get e = some ie := by rfl) (h1 : ie.size = 1 := by rfl) (hb1 : ie.bytes = 1 := by rfl) (hz : ie.zero = .int .u8 0 := by rfl)
    (hs : opd tm s = some u := by rfl) (hne : Nat.beq d1 (match s with | .tmp k => k | _ => d1 + 1) = false := by rfl) (hu : u.val = v := by rfl) (hn : l[n]? = some (bufF e v bs) := by rfl) : Good C Q0 (.ops ops (o1 :: o2 :: os)) K tm l := by
  refine Good.op hg1 (OpW.lit ho1 hlit (dst_some hd1 hlt1) fun g => ?_)
  rw [put_some hd1]
  have hs' : opd ((d1, Ent.v (.slice (some ⟨g, 0, none⟩) m m)) :: tm) s = some u := by
    cases s with
    | tmp k => show Tm.get _ _ = _; simp only [Tm.get]; rw [show Nat.beq d1 k = false from hne]; exact hs
    | const c => cases c with
      | bool b => cases b <;> exact hs
      | _ => exact hs
    | global g => exact hs
    | func f => exact hs
  have hx : opd ((d1, Ent.v (.slice (some ⟨g, 0, none⟩) m m)) :: tm) (.tmp d1) = some (.v (.slice (some ⟨g, 0, none⟩) m m)) := by
    show Tm.get _ _ = _; simp only [Tm.get]; rw [Nat.beq_refl]
  refine Good.op (by rw [hg2]; rfl) (OpW.bufAppendS (n + 1) ho2 hs' hu hx hm (by simpa using hn) ht he hi h1 hb1 hz hb hc0 (fun w hS j u hj => by
    rw [addr_add]; exact hS.cell 0 rfl (by simpa using hj)) (dst_some hd2 hlt2) fun v' => ?_)
  rw [put_some hd2]
  exact Good.mem (l' := l.set n (bufF e v' (bs ++ cs))) (fun w hS => Sat.tail (A := HP.row g (strCells (str cs)) e) (by simpa using hS)) (kk g v')

/-! ## interface values held against nil -/
def isIface : TypeDesc → Bool
  | .interface _ => true
  | _ => false
theorem isIface_ok {d : TypeDesc} (h : isIface d = true) : ∃ ms, d = .interface ms := by cases d <;> first | exact ⟨_, rfl⟩ | cases h
/-- Is an interface value nil? -/
def nilB : Value → Option Bool
  | .nilIface => some true
  | .iface _ _ => some false
  | _ => none
theorem run_iface_nil {P : Program} {t : TypeId} {ms : Array (String × TypeId)} (hu : P.underlying t = some (.interface ms)) (v : Value) {b : Bool} (hb : nilB v = some b) (x : Operand) (w : World) :
    (do eqGuard .eql t x (.const .nilIface) v .nilIface; Op.equal t v .nilIface : Sem Bool).run P w = .ok b w := by
  have hg : (eqGuard .eql t x (.const .nilIface) v .nilIface).run P w = .ok () w := by
    unfold eqGuard
    cases v <;> simp [nilB] at hb <;> simp
  have h : ∀ d : Nat, (Op.equalIn (d + 1) t v .nilIface).run P w = .ok b w := fun d => by
    cases v <;> simp [nilB] at hb <;> subst hb <;> simp [Op.equalIn, run_underlying hu]
  simp only [Sem.run_bind, hg, Result.andThen_ok]
  simp [Op.equal, Op.maxDepth, h 9999]
theorem eqGuard_neq (t : TypeId) (x y : Operand) (a b : Value) : eqGuard .neq t x y a b = eqGuard .eql t x y a b := rfl
theorem Yv.ifaceNil {t t' : TypeId} {i : TI} {x : Operand} {v : Value} {e : Ent} {b : Bool} (ho : o.op = .binOp .eql t x (.const .nilIface) t') (hx : opd tm x = some e) (hv : e.val = v) (hb : nilB v = some b) (ht : C.T.get t = some i) (hi : isIface i.desc = true) : Yv C tm o (.bool b) := fun a hA w => by
  have hu := (C.ok t i ht).under
  obtain ⟨ms, hms⟩ := isIface_ok hi
  rw [hms] at hu
  have hx' : a.eval x = v := by rw [hA.eval hx, hv]
  have hy' : a.eval (.const .nilIface) = .nilIface := rfl
  have hr := run_iface_nil hu v hb x w
  have hop : binOp .eql t v .nilIface = (do Pure.pure (Value.bool (← Op.equal t v .nilIface)) : Sem Value) := by cases v <;> simp [nilB] at hb <;> rfl
  unfold execOp
  simp only [ho, hx', hy', hop, Sem.run_bind] at hr ⊢
  cases hg : (eqGuard .eql t x (.const .nilIface) v .nilIface).run C.P w with
  | ok u w1 => rw [hg] at hr; simp only [Result.andThen_ok] at hr ⊢; rw [hr]; rfl
  | halt u w1 => rw [hg] at hr; cases hr
theorem Yv.ifaceNe {t t' : TypeId} {i : TI} {x : Operand} {v : Value} {e : Ent} {b : Bool} (ho : o.op = .binOp .neq t x (.const .nilIface) t') (hx : opd tm x = some e) (hv : e.val = v) (hb : nilB v = some b) (ht : C.T.get t = some i) (hi : isIface i.desc = true) : Yv C tm o (.bool (!b)) := fun a hA w => by
  have hu := (C.ok t i ht).under
  obtain ⟨ms, hms⟩ := isIface_ok hi
  rw [hms] at hu
  have hx' : a.eval x = v := by rw [hA.eval hx, hv]
  have hy' : a.eval (.const .nilIface) = .nilIface := rfl
  have hr := run_iface_nil hu v hb x w
  have hop : binOp .neq t v .nilIface = (do Pure.pure (Value.bool (!(← Op.equal t v .nilIface))) : Sem Value) := by cases v <;> simp [nilB] at hb <;> rfl
  unfold execOp
  simp only [ho, hx', hy', hop, eqGuard_neq, Sem.run_bind] at hr ⊢
  cases hg : (eqGuard .eql t x (.const .nilIface) v .nilIface).run C.P w with
  | ok u w1 => rw [hg] at hr; simp only [Result.andThen_ok] at hr ⊢; rw [hr]; rfl
  | halt u w1 => rw [hg] at hr; cases hr

/-! ## cuts of rows -/
/-- x[i:j] of a slice (with a bound on what is left, so that its place is known). -/
theorem Yv.sliceSlc {t e : TypeId} {x : Operand} {lo hi : Option Operand} {i ie : TI} {ad : Addr} {n c : Nat} {vl vh : Option Value} (a b : Nat) (ho : o.op = .slice t x lo hi none) (ht : C.T.get t = some i) (he : elemE i.desc = some e) (hie : C.T.get e = some ie)
    (hx : opd tm x = some (.v (.slice (some ad) n c))) (hl : opdO tm lo = some vl) (hh : opdO tm hi = some vh) (h1 : match vl with | none => a = 0 | some v => ∃ k, v = .int k (a : Int)) (h2 : match vh with | none => b = n | some v => ∃ k, v = .int k (b : Int)) (hab : a ≤ b) (hb : b ≤ c) :
    Yv C tm o (.slice (some (if c = a then ad else ad.add (a * ie.size))) (b - a) (c - a)) := fun ac hA w => by
  have hu := C.ok.under ht w
  rw [elemE_ok he] at hu
  have hz := C.ok.sizeOf hie w
  have e1 := opdO_ok hA hl
  have e2 := opdO_ok hA hh
  unfold execOp
  simp only [ho, hA.eval hx, Ent.val, e1, e2, Instr.sliceAt, Instr.slice, Sem.run_bind, Result.andThen_ok, hu, hz]
  cases vl <;> cases vh <;> simp only at h1 h2
  · subst h1 h2; simp [Instr.sliceBounds]; split <;> simp_all
  · obtain ⟨k, rfl⟩ := h2; subst h1; simp [Instr.sliceBounds, Instr.sliceBound, asIntOf, hb, hz]; split <;> simp_all
  · obtain ⟨k, rfl⟩ := h1; subst h2; simp [Instr.sliceBounds, Instr.sliceBound, asIntOf, hab, hz]; split <;> simp_all
  · obtain ⟨k, rfl⟩ := h1; obtain ⟨k', rfl⟩ := h2; simp [Instr.sliceBounds, Instr.sliceBound, asIntOf, hab, hb, hz]; split <;> simp_all
/-- x[i:j] of an array behind a pointer. -/
theorem Yv.sliceArr {t e : TypeId} {x : Operand} {lo hi : Option Operand} {ia ie : TI} {ad : Addr} {c : Nat} {vl vh : Option Value} (a b : Nat) (ho : o.op = .slice t x lo hi none) (har : C.T.get t = some ia) (he : arrE ia.desc = some (c, e)) (hie : C.T.get e = some ie)
    (hx : opd tm x = some (.v (.pointer (some ad)))) (hl : opdO tm lo = some vl) (hh : opdO tm hi = some vh) (h1 : match vl with | none => a = 0 | some v => ∃ k, v = .int k (a : Int)) (h2 : match vh with | none => b = c | some v => ∃ k, v = .int k (b : Int)) (hab : a ≤ b) (hb : b ≤ c) :
    Yv C tm o (.slice (some (if c = a then ad else ad.add (a * ie.size))) (b - a) (c - a)) := fun ac hA w => by
  have hv := C.ok.under har w
  rw [arrE_ok he] at hv
  have hz := C.ok.sizeOf hie w
  have e1 := opdO_ok hA hl
  have e2 := opdO_ok hA hh
  unfold execOp
  simp only [ho, hA.eval hx, Ent.val, e1, e2, Instr.sliceAt, Instr.sureAddr, Sem.run_bind, Sem.run_pure, Result.andThen_ok, hv, hz]
  cases vl <;> cases vh <;> simp only at h1 h2
  · subst h1 h2; simp [Instr.sliceBounds, hz]
  · obtain ⟨k, rfl⟩ := h2; subst h1; simp [Instr.sliceBounds, Instr.sliceBound, asIntOf, hb, hz]
  · obtain ⟨k, rfl⟩ := h1; subst h2; simp [Instr.sliceBounds, Instr.sliceBound, asIntOf, hab, hz]
  · obtain ⟨k, rfl⟩ := h1; obtain ⟨k', rfl⟩ := h2; simp [Instr.sliceBounds, Instr.sliceBound, asIntOf, hab, hb, hz]
/-- The bytes of a row, from a place on, as a text. -/
theorem Sat.rowBytes {P : Program} {W w : World} {p : Hl} {l : List HP} (n : Nat) {g off m c : Nat} {cs : List Value} {e : TypeId} {bs : List UInt8} (hS : Sat W p l w) (hn : l[n]? = some (HP.row g cs e)) (hb : ∀ j u, bs[j]? = some u → cs[off + j]? = some (.int .u8 u.toNat)) (hm : m = bs.length) : BytesAt P (.slice (some ⟨g, off, none⟩) m c) (str bs) w := by
  subst hm
  have hl : (loadCells ⟨g, off, none⟩ bs.length).run P w = .ok ((bs.map fun u => (u.toNat : Int)).map (Value.int .u8)).toArray w := by
    have := run_loadCells_list (P := P) w ⟨g, off, none⟩ ((bs.map fun u => (u.toNat : Int)).map (Value.int .u8)) (fun j v hj => by
      simp only [List.map_map, List.getElem?_map, Option.map_eq_some_iff] at hj
      obtain ⟨u, hu, rfl⟩ := hj
      rw [addr_add]; exact hS.cell n hn (hb j u hu))
    simpa using this
  refine ⟨⟨_, _, _, rfl⟩, ?_⟩
  rw [run_bytesToString w _ _ c _ hl]
  have fold : ∀ (ns : List Int) (s : ByteArray), ns.foldl (fun r n => r.push (UInt8.ofNat n.toNat)) s = s ++ str (ns.map fun n => UInt8.ofNat n.toNat) := by
    intro ns
    induction ns with
    | nil => intro s; apply ByteArray.ext; simp [str]
    | cons n ns ih => intro s; rw [List.foldl_cons, ih]; apply ByteArray.ext; simp [str]
  rw [fold]
  congr 2
  apply ByteArray.ext
  simp only [str, ByteArray.data_append, List.map_map]
  have : List.map ((fun n : Int => UInt8.ofNat n.toNat) ∘ fun u : UInt8 => (u.toNat : Int)) bs = bs := by
    conv => rhs; rw [← List.map_id bs]
    apply List.map_congr_left
    intro u _
    simp
  rw [this]
  simp
theorem Good.rowStr (n : Nat) {t t' e : TypeId} {x : Operand} {it ie it' : TI} {v : Value} {g off m c : Nat} {cs : List Value} {bs : List UInt8} {u : Ent} {et : TypeId} (hb : ∀ j u, bs[j]? = some u → cs[off + j]? = some (.int .u8 u.toNat)) (hm : m = bs.length) (kk : Good C Q0 (.ops ops os) K ((d, .v (.string (str bs))) :: tm) l) (hg : guardE (dsts ops) tm o.guard = some true := by rfl) (hdst : o.dst = some d := by rfl) (hlt : Nat.blt d C.n = true := by rfl) (ho : o.op = .convert t t' x := by rfl) (hx : opd tm x = some u := by rfl) (hu : u.val = v := by rfl) (hv : v = .slice (some ⟨g, off, none⟩) m c := by rfl) (hn : l[n]? = some (HP.row g cs et) := by rfl) (ht : C.T.get t = some it := by rfl) (he : elemE it.desc = some e := by rfl) (hi : C.T.get e = some ie := by rfl) (hie : ie.desc = .int .u8 := by rfl) (ht' : C.T.get t' = some it' := by rfl) (hstr : isStr it'.desc = true := by rfl) : Good C Q0 (.ops ops (o :: os)) K tm l :=
  Good.op hg (OpW.yields _ (dst_some hdst hlt) (fun a w hA hS => convBytes ho ht he hi hie ht' hstr (by rw [hA.eval hx, hu, hv]; exact hS.rowBytes n hn hb hm)) (by rw [put_some hdst]; exact kk))
/-- A number as a text: the bytes of a sign. -/
theorem Yv.intStr {t t' : TypeId} {x : Operand} {it' it : TI} {k : IntKind} {n : Int} (ho : o.op = .convert t t' x) (ht : C.T.get t = some it) (ht' : C.T.get t' = some it') (hstr : isStr it'.desc = true) (hx : opd tm x = some (.v (.int k n))) : Yv C tm o (.string (Utf8.encode n)) := fun a hA w => by
  have h1 := C.ok.under ht w
  have h2 := C.ok.under ht' w
  rw [isStr_ok hstr] at h2
  unfold execOp
  simp only [ho, hA.eval hx, Ent.val, convert, Sem.run_bind, h1, h2, Result.andThen_ok, Conv.intToString, Sem.run_pure]
end
end Go.Proofs.YtnfcbpgckomdfaaDoor
