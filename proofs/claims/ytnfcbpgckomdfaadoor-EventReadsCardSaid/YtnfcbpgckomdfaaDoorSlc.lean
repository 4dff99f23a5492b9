/- Slices of the call's own; appends; bytes as texts. For all of this seat's walks. -/
import Derived.Test.YtnfcbpgckomdfaaDoorRow
namespace Go.Proofs.YtnfcbpgckomdfaaDoor

/-- A slice of elements of type e (sz cells each) that owns its array: xs are its elements' cells. -/
def slc (e : TypeId) (sz : Nat) (v : Value) (xs : List Value) : HP := fun h =>
  (v = .slice none 0 0 ∧ xs = [] ∧ h = Hl.nil) ∨
  ∃ g n cap rest, v = .slice (some ⟨g, 0, none⟩) n cap ∧ xs.length = n * sz ∧ n ≤ cap ∧ cap ≤ maxLen ∧ (xs ++ rest).length = cap * sz ∧ h = Hl.one g (.cells (xs ++ rest).toArray e (0, 0))
theorem slc.nil (e : TypeId) (sz : Nat) : slc e sz (.slice none 0 0) [] Hl.nil := .inl ⟨rfl, rfl, rfl⟩
theorem Sat.slcNil {W w : World} {p : Hl} {l : List HP} (e : TypeId) (sz : Nat) (s : Sat W p l w) : Sat W p (slc e sz (.slice none 0 0) [] :: l) w := by
  obtain ⟨k, b, c⟩ := s
  exact ⟨k, ⟨Hl.nil, k, fun _ => .inl rfl, (Hl.nil_un k).symm, slc.nil e sz, b⟩, c⟩
/-- What is known of memory where a slice owns its array: its value, and the block. -/
theorem Sat.slcOpen {W w : World} {p : Hl} {l : List HP} {e : TypeId} {sz : Nat} {v : Value} {xs : List Value} (s : Sat W p (slc e sz v xs :: l) w) :
    (v = .slice none 0 0 ∧ xs = [] ∧ Sat W p l w) ∨
    ∃ g n cap rest, v = .slice (some ⟨g, 0, none⟩) n cap ∧ xs.length = n * sz ∧ n ≤ cap ∧ cap ≤ maxLen ∧ (xs ++ rest).length = cap * sz ∧ Sat W p (HP.row g (xs ++ rest) e :: l) w := by
  obtain ⟨k, ⟨h1, h2, d, e1, a, b⟩, c⟩ := s
  rcases a with ⟨a1, a2, a3⟩ | ⟨g, n, cap, rest, a1, a2, a3, a4, a5, a6⟩
  · subst a3; rw [Hl.nil_un] at e1; subst e1; exact .inl ⟨a1, a2, k, b, c⟩
  · exact .inr ⟨g, n, cap, rest, a1, a2, a3, a4, a5, k, ⟨h1, h2, d, e1, a6, b⟩, c⟩
theorem Sat.slcShut {W w : World} {p : Hl} {l : List HP} {e : TypeId} {sz g n cap : Nat} {xs rest : List Value} (h1 : xs.length = n * sz) (h2 : n ≤ cap) (h3 : cap ≤ maxLen) (h4 : (xs ++ rest).length = cap * sz)
    (s : Sat W p (HP.row g (xs ++ rest) e :: l) w) : Sat W p (slc e sz (.slice (some ⟨g, 0, none⟩) n cap) xs :: l) w :=
  s.weak fun _ a => .inr ⟨g, n, cap, rest, rfl, h1, h2, h3, h4, a⟩
theorem Sat.front' {W w : World} {p : Hl} {l : List HP} (n : Nat) {A : HP} (s : Sat W p l w) (hn : l[n]? = some A) : Sat W p (A :: l.eraseIdx n) w := s.front hn
theorem Sat.second {W w : World} {p : Hl} {A B : HP} {l : List HP} (s : Sat W p (A :: B :: l) w) : Sat W p (A :: l) w := (s.perm (List.Perm.swap B A l)).tail
theorem Sat.drewW {W w : World} {p : Hl} {l : List HP} (s : Sat W p l w) : Sat W p l w.drew := s.drew
theorem Sat.allocW {W w : World} {p : Hl} {l : List HP} (s : Sat W p l w) (o : Obj) : Sat W p (HP.blk w.heap.size o :: l) (w.alloc o) := s.alloc o
theorem mulLen {n m sz : Nat} {xs ys : List Value} (h : xs.length = n * sz) (h' : ys.length = m * sz) : (xs ++ ys).length = (n + m) * sz := by rw [List.length_append, h, h', Nat.add_mul]
/-- append(s, x...), where x's elements are read in memory: m of them, one at least. -/
theorem append_run {C : Cx} {l : List HP} (n : Nat) {t e : TypeId} {it ie : TI} (ht : C.T.get t = some it) (he : elemE it.desc = some e) (hi : C.T.get e = some ie) (hz : ie.zero.cells.size = ie.size) {v : Value} {xs news : List Value} (hn : l[n]? = some (slc e ie.size v xs))
    {ad : Addr} {m c : Nat} (h0 : 0 < m) (hl : news.length = m * ie.size) (h1 : oneL news = true) (hsz : 0 < ie.size) (hb : (xs.length + news.length) * ie.bytes ≤ 140737488355328 * ie.size) (hby : 0 < ie.bytes)
    {w : World} (hS : Sat C.W C.p l w) (hnews : ∀ j u, news[j]? = some u → w.cell? (ad.add j) = some u) (ty : TypeId) :
    ∃ v' w', (Builtin.append_ #[t, t] ty #[v, .slice (some ad) m c]).run C.P w = .ok v' w' ∧ Sat C.W C.p (l.set n (slc e ie.size v' (xs ++ news))) w' := by
  obtain ⟨j, hj, hjs, hjb, hjz⟩ := (C.ok e ie hi).info
  have hu := (C.ok t it ht).under
  rw [elemE_ok he] at hu
  have hl' : news.length = m * j.size := by rw [hjs]; exact hl
  have cap : ∀ k, xs.length = k * ie.size → (k + m) * ie.bytes ≤ 140737488355328 := fun k hk => by
    rw [hk, hl, ← Nat.add_mul] at hb
    have : ((k + m) * ie.bytes) * ie.size ≤ 140737488355328 * ie.size := by
      calc (k + m) * ie.bytes * ie.size = (k + m) * ie.size * ie.bytes := by rw [Nat.mul_assoc, Nat.mul_comm ie.bytes, ← Nat.mul_assoc]
        _ ≤ _ := hb
    exact Nat.le_of_mul_le_mul_right this hsz
  have small : ∀ k, xs.length = k * ie.size → k + m ≤ 140737488355328 := fun k hk => Nat.le_trans (Nat.le_mul_of_pos_right _ hby) (cap k hk)
  have hzl : ∀ k, (Builtin.zeroCells ie.zero.cells k).toList.length = k * ie.size := fun k => by simp [Builtin.zeroCells, hz]
  rcases (hS.front' n hn).slcOpen with ⟨rfl, rfl, s⟩ | ⟨g, k, cp, rest, rfl, a2, a3, a4, a5, s⟩
  · have hc := cap 0 (by simp)
    have hs := small 0 (by simp)
    simp only [Nat.zero_add] at hc hs
    have hr := run_append_nil (P := C.P) w t ty e j ie.zero hu hj hjz ad m c news hl' hnews h0 (by omega) (by rw [hjb]; omega)
    refine ⟨_, _, hr, ?_⟩
    have hge := grownCap_ge w m 0 e
    refine Sat.back (A := slc e ie.size (.slice none 0 0) []) ?_ hn
    refine Sat.slcShut (rest := (Builtin.zeroCells ie.zero.cells (grownCap w m 0 e - m)).toList) (by simpa using hl) hge (grownCap_le_maxLen w m 0 e (by unfold maxLen; omega)) ?_ ?_
    · rw [List.nil_append, List.length_append, hl, hzl, ← Nat.add_mul]; congr 1; omega
    · have := (s.drewW).allocW (.cells (news.toArray ++ Builtin.zeroCells ie.zero.cells (grownCap w m 0 e - m)) e)
      have e1 : (([] ++ news ++ (Builtin.zeroCells ie.zero.cells (grownCap w m 0 e - m)).toList).toArray : Array Value) = news.toArray ++ Builtin.zeroCells ie.zero.cells (grownCap w m 0 e - m) := by simp
      show Sat C.W C.p (HP.blk _ (.cells _ e (0, 0)) :: _) _
      rw [e1]; exact this
  · have hc := cap k a2
    have hs := small k a2
    by_cases hroom : k + m ≤ cp
    · have hg := s.block 0 rfl
      have hfit : k * j.size + news.length ≤ (xs ++ rest).toArray.size := by
        rw [hjs, hl, ← Nat.add_mul]; simp only [List.size_toArray, a5]; exact Nat.mul_le_mul_right _ hroom
      have hr := run_append_room (P := C.P) w t ty e j hu hj g k cp (xs ++ rest).toArray hg ad m c news hl' hnews (oneL_ok h1) hroom hfit
      refine ⟨_, _, hr, ?_⟩
      refine Sat.back (A := slc e ie.size (.slice (some ⟨g, 0, none⟩) k cp) xs) ?_ hn
      have hset := s.write 0 (g := g) rfl (w' := w.setRow g ((xs ++ rest).take (k * j.size) ++ news ++ (xs ++ rest).drop (k * j.size + news.length)).toArray) rfl rfl rfl (by simp [World.setRow]) (setRow_heap w g _ _ e (0, 0) hg) (fun b hb => setRow_other w g b _ hb)
      have e2 : (xs ++ rest).take (k * j.size) ++ news ++ (xs ++ rest).drop (k * j.size + news.length) = (xs ++ news) ++ (xs ++ rest).drop (k * j.size + news.length) := by
        rw [hjs, ← a2, List.take_left]
      rw [e2] at hset
      simp only [List.set_cons_zero] at hset
      refine Sat.slcShut (rest := (xs ++ rest).drop (k * j.size + news.length)) (mulLen a2 hl) hroom a4 ?_ ?_
      · rw [List.length_append, List.length_append, List.length_drop, a5, hjs, a2, hl, ← Nat.add_mul]
        have := Nat.mul_le_mul_right ie.size hroom
        omega
      · simp only at hr ⊢
        rw [← e2]
        rw [e2]; exact hset
    · have holds : ∀ j u, xs[j]? = some u → w.cell? ((⟨g, 0, none⟩ : Addr).add j) = some u := fun j u hu => by
        rw [addr_add]
        refine s.cell 0 rfl ?_
        rw [Nat.zero_add, List.getElem?_append_left (List.getElem?_eq_some_iff.1 hu).1]; exact hu
      have hr := run_append_grow (P := C.P) w t ty e j ie.zero hu hj hjz ⟨g, 0, none⟩ k cp xs (by rw [hjs]; exact a2) holds ad m c news hl' hnews (by omega) (by omega) (growslice_fits (by omega) (by rw [hjb]; exact hc))
      refine ⟨_, _, hr, ?_⟩
      have hge := grownCap_ge w (k + m) cp e
      refine Sat.back (A := slc e ie.size (.slice (some ⟨g, 0, none⟩) k cp) xs) ?_ hn
      refine Sat.slcShut (rest := (Builtin.zeroCells ie.zero.cells (grownCap w (k + m) cp e - (k + m))).toList) (mulLen a2 hl) hge (grownCap_le_maxLen w (k + m) cp e (by unfold maxLen; omega)) ?_ ?_
      · rw [List.length_append, mulLen a2 hl, hzl, ← Nat.add_mul]; congr 1; omega
      · have := ((s.drewW).allocW (.cells (xs.toArray ++ news.toArray ++ Builtin.zeroCells ie.zero.cells (grownCap w (k + m) cp e - (k + m))) e)).second
        have e1 : ((xs ++ news ++ (Builtin.zeroCells ie.zero.cells (grownCap w (k + m) cp e - (k + m))).toList).toArray : Array Value) = xs.toArray ++ news.toArray ++ Builtin.zeroCells ie.zero.cells (grownCap w (k + m) cp e - (k + m)) := by simp
        show Sat C.W C.p (HP.blk _ (.cells _ e (0, 0)) :: _) _
        rw [e1]; exact this

/-! ## slices written out -/
def zeroL (z : List Value) : Nat → List Value
  | 0 => []
  | n + 1 => z ++ zeroL z n
theorem zeroL_length (z : List Value) : ∀ n, (zeroL z n).length = n * z.length
  | 0 => by simp [zeroL]
  | n + 1 => by simp [zeroL, zeroL_length z n, Nat.add_mul]; omega
theorem zeroL_get (z : List Value) : ∀ n i, i < n * z.length → (zeroL z n)[i]? = z[i % z.length]?
  | 0, i, h => by simp at h
  | n + 1, i, h => by
    rw [zeroL]
    by_cases hi : i < z.length
    · rw [List.getElem?_append_left hi, Nat.mod_eq_of_lt hi]
    · rw [List.getElem?_append_right (by omega), zeroL_get z n _ (by rw [Nat.succ_mul] at h; omega), Nat.mod_eq_sub_mod (a := i) (by omega)]
theorem zero_array (z : Array Value) (n : Nat) (hz : 0 < z.size ∨ n = 0) : (Array.range (n * z.size)).map (fun i => z[i % z.size]!) = (zeroL z.toList n).toArray := by
  apply Array.ext'
  apply List.ext_getElem?
  intro i
  by_cases h : i < n * z.size
  · have hp : 0 < z.size := by rcases hz with h1 | h1; · exact h1
                               · subst h1; simp at h
    have hm := Nat.mod_lt i hp
    rw [show ((zeroL z.toList n).toArray.toList)[i]? = z.toList[i % z.toList.length]? from zeroL_get _ _ _ (by simpa using h)]
    simp [h, hm]
  · rw [List.getElem?_eq_none (by simp; omega), List.getElem?_eq_none (by simp [zeroL_length]; omega)]
/-- The cells of a slice that is written out. -/
def litE (T : Ty) (tm : Tm) (t : TypeId) (len : Nat) (ps : List (Nat × Operand)) : Option (TypeId × List Value) := match T.get t with
  | none => none
  | some i => match elemE i.desc with
    | none => none
    | some e => match T.get e with
      | none => none
      | some j => match cellsL j.zero with
        | none => none
        | some z => match Nat.beq z.length j.size && Nat.blt 0 j.size && Nat.ble (len * j.size) 16777216 with
          | false => none
          | true => match fillE (fun i => some (i * j.size, j.size)) tm (zeroL z len) ps with
            | none => none
            | some r => some (e, r)
section
variable {C : Cx} {Q0 : Exit → Act → World → Prop} {K : List Fr} {tm : Tm} {l : List HP} {ops : Array Oper} {o : Oper} {os : List Oper} {d : Tmp} {J : Tm → List HP → Prop}
theorem OpW.lit {t : TypeId} {len : Nat} {ps : List (Nat × Operand)} {e : TypeId} {r : List Value} (ho : o.op = .buildSlice t len ps.toArray) (h : litE C.T tm t len ps = some (e, r)) (hd : dstOk C.n o.dst = true)
    (k : ∀ g, J (tm.put o.dst (.slice (some ⟨g, 0, none⟩) len len)) (HP.row g r e :: l)) : OpW C o tm l J := fun Kk Q hK a w hA hS => by
  unfold litE at h
  split at h <;> try (cases h; done)
  rename_i i hi
  split at h <;> try (cases h; done)
  rename_i e' he
  split at h <;> try (cases h; done)
  rename_i j hj
  split at h <;> try (cases h; done)
  rename_i z hz
  split at h <;> try (cases h; done)
  rename_i hb
  split at h <;> try (cases h; done)
  rename_i r' hr
  simp at h; obtain ⟨rfl, rfl⟩ := h
  simp only [Bool.and_eq_true, Nat.blt_eq, Nat.ble_eq] at hb
  obtain ⟨⟨hb1, hb2⟩, hb3⟩ := hb
  have hb1 := Nat.eq_of_beq_eq_true hb1
  have hzc : j.zero.cells = z.toArray := by rw [← cellsL_ok hz]
  have hu := C.ok.under hi w
  rw [elemE_ok he] at hu
  have hf := fillE_ok hA hr
  have hza : (Array.range (len * j.size)).map (fun i => z.toArray[i % z.toArray.size]!) = (zeroL z len).toArray := by
    have := zero_array z.toArray len (.inl (by simp; omega))
    simpa [hb1] using this
  have hrun : (execOp a.eval o).run C.P w = .ok (.value (.slice (some ⟨w.heap.size, 0, none⟩) len len)) { w with heap := w.heap.push (.cells r'.toArray e') } := by
    have hl : (Array.map (fun x : Nat × Operand => match x with | (i, x) => (i, a.eval x)) ps.toArray).toList = ps.map fun (i, x) => (i, a.eval x) := by simp
    have h24 : ¬ (len * j.size > 16777216) := by omega
    unfold execOp
    simp only [ho, Instr.buildSlice, Sem.run_bind, hu, Result.andThen_ok, C.ok.sizeOf hj w, hl]
    by_cases hl0 : len * j.size = 0
    · have hlen : len = 0 := by rcases Nat.mul_eq_zero.1 hl0 with h | h; · exact h
                                · omega
      subst hlen
      simp only [Nat.zero_mul, zeroL] at hf ⊢
      simp [newRow, newObj]
      rw [show Array.map (fun _ => (default : Value)) (Array.range 0) = ([] : List Value).toArray from by simp, show List.map (fun x : Nat × Operand => (x.fst, a.eval x.snd)) ps = ps.map (fun (i, x) => (i, a.eval x)) from rfl, hf]
      simp [Sem.run]
    · simp [hl0, h24, C.ok.zeroOf hj w, hzc, newRow, newObj]
      have hza' := hza
      simp at hza'
      rw [hza']
      rw [hf]
      simp [Sem.run]
  show o.wp C.P a w Kk Q
  unfold Oper.wp
  rw [hrun]
  exact hK _ _ (k w.heap.size) _ _ (hA.put hd _) (hS.alloc _)
/-- append(s, x...): s owns its array (part n of memory); x's elements are read. -/
theorem OpW.append (n : Nat) {s x : Operand} {t e : TypeId} {it ie : TI} {v : Value} {xs news : List Value} {ad : Addr} {m c : Nat} (ho : o.op = .call { callee := .builtin .append, args := #[s, x], argTypes := #[t, t] }) (ht : C.T.get t = some it) (he : elemE it.desc = some e) (hi : C.T.get e = some ie)
    {z : List Value} (hz : cellsL ie.zero = some z) (hz' : Nat.beq z.length ie.size = true) {u : Ent} (hs : opd tm s = some u) (hu : u.val = v) (hx : opd tm x = some (.v (.slice (some ad) m c))) (hn : l[n]? = some (slc e ie.size v xs)) (h0 : 0 < m) (hl : news.length = m * ie.size) (h1 : oneL news = true) (hsz : Nat.blt 0 ie.size = true) (hby : Nat.blt 0 ie.bytes = true)
    (hb : (xs.length + news.length) * ie.bytes ≤ 140737488355328 * ie.size) (hnews : ∀ w, Sat C.W C.p l w → ∀ j u, news[j]? = some u → w.cell? (ad.add j) = some u) (hd : dstOk C.n o.dst = true)
    (k : ∀ v', J (tm.put o.dst v') (l.set n (slc e ie.size v' (xs ++ news)))) : OpW C o tm l J := fun Kk Q hK a w hA hS => by
  have hzs : ie.zero.cells.size = ie.size := by rw [← Nat.eq_of_beq_eq_true hz', ← cellsL_ok hz]; simp
  obtain ⟨v', w', hr, hs'⟩ := append_run n ht he hi hzs hn h0 hl h1 (by simpa [Nat.blt_eq] using hsz) hb (by simpa [Nat.blt_eq] using hby) hS (hnews w hS) o.type (c := c)
  subst hu
  have hrun : (execOp a.eval o).run C.P w = .ok (.value v') w' := by
    unfold execOp
    have hx' : a.eval x = .slice (some ad) m c := hA.eval hx
    simp only [ho, resolve, invoke, builtin, Sem.run_bind, Sem.run_pure, Result.andThen_ok, List.map_toArray, List.map_cons, List.map_nil, hA.eval hs, hx', hr]
  show o.wp C.P a w Kk Q
  unfold Oper.wp
  rw [hrun]
  exact hK _ _ (k v') _ _ (hA.put hd v') hs'
/-- s = append(s, x): one element, or some that are written out. -/
theorem Good.push (n : Nat) {o1 o2 : Oper} {d1 d2 : Tmp} {s : Operand} {t e : TypeId} {it ie : TI} {v : Value} {xs news : List Value} {m : Nat} {ps : List (Nat × Operand)} {z : List Value} {u : Ent} {sz : Nat}
    (kk : ∀ g v', Good C Q0 (.ops ops os) K ((d2, .v v') :: (d1, .v (.slice (some ⟨g, 0, none⟩) m m)) :: tm) (l.set n (slc e sz v' (xs ++ news)))) (hb : (xs.length + news.length) * ie.bytes ≤ 140737488355328 * ie.size)
    (hg1 : guardE (dsts ops) tm o1.guard = some true := by rfl) (hd1 : o1.dst = some d1 := by rfl) (hlt1 : Nat.blt d1 C.n = true := by rfl) (ho1 : o1.op = .buildSlice t m ps.toArray := by rfl) (hlit : litE C.T tm t m ps = some (e, news) := by rfl)
    (hg2 : o2.guard = none := by rfl) (hd2 : o2.dst = some d2 := by rfl) (hlt2 : Nat.blt d2 C.n = true := by rfl) (ho2 : o2.op = .call { callee := .builtin .append, args := #[s, .tmp d1], argTypes := #[t, t] } := by rfl)
    (ht : C.T.get t = some it := by rfl) (he : elemE it.desc = some e := by rfl) (hi : C.T.get e = some ie := by rfl) (hz : cellsL ie.zero = some z := by rfl) (hz' : Nat.beq z.length ie.size = true := by rfl)
    (hs : opd tm s = some u := by rfl) (hne : Nat.beq d1 (match s with | .tmp k => k | _ => d1 + 1) = false := by rfl) (hu : u.val = v := by rfl) (hn : l[n]? = some (slc e sz v xs) := by rfl) (hsize : ie.size = sz := by rfl) (h0 : Nat.blt 0 m = true := by rfl) (hl : Nat.beq news.length (m * ie.size) = true := by rfl) (h1 : oneL news = true := by rfl) (hsz : Nat.blt 0 ie.size = true := by rfl) (hby : Nat.blt 0 ie.bytes = true := by rfl) : Good C Q0 (.ops ops (o1 :: o2 :: os)) K tm l := by
  subst hsize
  refine Good.op hg1 (OpW.lit ho1 hlit (dst_some hd1 hlt1) fun g => ?_)
  rw [put_some hd1]
  have hs' : opd ((d1, Ent.v (.slice (some ⟨g, 0, none⟩) m m)) :: tm) s = some u := by
    cases s with
    | tmp k => show Tm.get _ _ = _; simp only [Tm.get]; rw [show Nat.beq d1 k = false from hne]; exact hs
    | const c => cases c with
      | bool b => cases b <;> exact hs
      | _ => exact hs
    | global g => exact hs
    | func f => exact hs
  have hx : opd ((d1, Ent.v (.slice (some ⟨g, 0, none⟩) m m)) :: tm) (.tmp d1) = some (.v (.slice (some ⟨g, 0, none⟩) m m)) := by
    show Tm.get _ _ = _; simp only [Tm.get]; rw [Nat.beq_refl]
  refine Good.op (by rw [hg2]; rfl) (OpW.append (n + 1) ho2 ht he hi hz hz' hs' hu hx (by simpa using hn) (by simpa [Nat.blt_eq] using h0) (Nat.eq_of_beq_eq_true hl) h1 hsz hby hb (fun w hS j u hj => by
    rw [addr_add]; exact hS.cell 0 rfl (by simpa using hj)) (dst_some hd2 hlt2) fun v' => ?_)
  rw [put_some hd2]
  exact Good.mem (l' := l.set n (slc e ie.size v' (xs ++ news))) (fun w hS => Sat.tail (A := HP.row g news e) (by simpa using hS)) (kk g v')
/-- A slice of bytes, read as a text. -/
def BytesAt (P : Program) (v : Value) (s : ByteArray) (w : World) : Prop := (∃ a n c, v = .slice a n c) ∧ (Conv.bytesToString v).run P w = .ok (.string s) w
theorem Sat.bytes {P : Program} {W w : World} {p : Hl} {l : List HP} (n : Nat) {e : TypeId} {v : Value} {ns : List Int} (hS : Sat W p l w) (hn : l[n]? = some (slc e 1 v (ns.map (Value.int .u8)))) : BytesAt P v (str (ns.map fun n => UInt8.ofNat n.toNat)) w := by
  have fold : ∀ (ns : List Int) (s : ByteArray), ns.foldl (fun r n => r.push (UInt8.ofNat n.toNat)) s = s ++ str (ns.map fun n => UInt8.ofNat n.toNat) := by
    intro ns
    induction ns with
    | nil => intro s; apply ByteArray.ext; simp [str]
    | cons n ns ih => intro s; rw [List.foldl_cons, ih]; apply ByteArray.ext; simp [str]
  rcases (hS.front' n hn).slcOpen with ⟨rfl, hns, s⟩ | ⟨g, m, cp, rest, rfl, a2, a3, a4, a5, s⟩
  · have : ns = [] := by simpa using hns
    subst this
    exact ⟨⟨_, _, _, rfl⟩, rfl⟩
  · have hl : (loadCells ⟨g, 0, none⟩ m).run P w = .ok (ns.map (Value.int .u8)).toArray w := by
      have := run_loadCells_list (P := P) w ⟨g, 0, none⟩ (ns.map (Value.int .u8)) (fun j v hj => by
        rw [addr_add]; refine s.cell 0 rfl ?_
        rw [Nat.zero_add, List.getElem?_append_left (List.getElem?_eq_some_iff.1 hj).1]; exact hj)
      rwa [a2, Nat.mul_one] at this
    refine ⟨⟨_, _, _, rfl⟩, ?_⟩
    rw [run_bytesToString w _ m cp ns hl, fold]
    congr 2
theorem convBytes {a : Act} {o : Oper} {t t' e : TypeId} {x : Operand} {it ie it' : TI} {s : ByteArray} (ho : o.op = .convert t t' x) (ht : C.T.get t = some it) (he : elemE it.desc = some e) (hi : C.T.get e = some ie) (hie : ie.desc = .int .u8) (ht' : C.T.get t' = some it') (hstr : isStr it'.desc = true) {w : World} (h : BytesAt C.P (a.eval x) s w) :
    (execOp a.eval o).run C.P w = .ok (.value (.string s)) w := by
  have h1 := C.ok.under ht w
  rw [elemE_ok he] at h1
  have h2 := C.ok.under ht' w
  rw [isStr_ok hstr] at h2
  have h3 := C.ok.under hi w
  rw [hie] at h3
  obtain ⟨⟨b, n, c, hv⟩, h⟩ := h
  rw [hv] at h
  unfold execOp
  simp only [ho, hv, convert, Sem.run_bind, h1, h2, h3, Result.andThen_ok, h, Sem.run_pure]
/-- A slice of bytes as a text. -/
theorem OpW.bytesStr (n : Nat) {t t' e : TypeId} {x : Operand} {it ie it' : TI} {v : Value} {ns : List Int} {u : Ent} (ho : o.op = .convert t t' x) (hx : opd tm x = some u) (hu : u.val = v) (hn : l[n]? = some (slc e 1 v (ns.map (Value.int .u8)))) (ht : C.T.get t = some it) (he : elemE it.desc = some e) (hi : C.T.get e = some ie) (hie : ie.desc = .int .u8) (ht' : C.T.get t' = some it') (hstr : isStr it'.desc = true)
    (hd : dstOk C.n o.dst = true) (k : J (tm.put o.dst (.string (str (ns.map fun n => UInt8.ofNat n.toNat)))) l) : OpW C o tm l J :=
  OpW.yields _ hd (fun a w hA hS => convBytes ho ht he hi hie ht' hstr (by rw [hA.eval hx, hu]; exact hS.bytes n hn)) k
theorem Good.bytesStr (n : Nat) {t t' e : TypeId} {x : Operand} {it ie it' : TI} {v : Value} {ns : List Int} {u : Ent} (kk : Good C Q0 (.ops ops os) K ((d, .v (.string (str (ns.map fun n => UInt8.ofNat n.toNat)))) :: tm) l) (hg : guardE (dsts ops) tm o.guard = some true := by rfl) (hdst : o.dst = some d := by rfl) (hlt : Nat.blt d C.n = true := by rfl) (ho : o.op = .convert t t' x := by rfl) (hx : opd tm x = some u := by rfl) (hu : u.val = v := by rfl) (hn : l[n]? = some (slc e 1 v (ns.map (Value.int .u8))) := by rfl) (ht : C.T.get t = some it := by rfl) (he : elemE it.desc = some e := by rfl) (hi : C.T.get e = some ie := by rfl) (hie : ie.desc = .int .u8 := by rfl) (ht' : C.T.get t' = some it' := by rfl) (hstr : isStr it'.desc = true := by rfl) : Good C Q0 (.ops ops (o :: os)) K tm l :=
  Good.op hg (OpW.bytesStr n ho hx hu hn ht he hi hie ht' hstr (dst_some hdst hlt) (by rw [put_some hdst]; exact kk))
/-- The same in a region that draws its order, where it is held what the bytes are. -/
theorem Good.dbytes {S : World → Prop} {L : List Nat} (i : Nat) {t t' e : TypeId} {x : Operand} {it ie it' : TI} {s : ByteArray} {u : Ent} {v : Value} (ho : ops[i]? = some o) (hv : ∀ w, S w → BytesAt C.P v s w) (kk : Good C Q0 (.drw ops S (i :: L)) K ((d, .v (.string s)) :: tm) l) (hop : o.op = .convert t t' x := by rfl) (hx : opd tm x = some u := by rfl) (hu : u.val = v := by rfl)
    (ht : C.T.get t = some it := by rfl) (he : elemE it.desc = some e := by rfl) (hi : C.T.get e = some ie := by rfl) (hie : ie.desc = .int .u8 := by rfl) (ht' : C.T.get t' = some it' := by rfl) (hstr : isStr it'.desc = true := by rfl) (hs : Region.noSelect ops = true := by kernel_rfl) (hm : mayFirst ops L [i] = true := by kernel_rfl) (hg : guardE (dsts ops) tm o.guard = some true := by rfl) (hdst : o.dst = some d := by rfl) (hlt : Nat.blt d C.n = true := by rfl) : Good C Q0 (.drw ops S L) K tm l :=
  Good.dtake i (.string s) ho hs hm hg (dst_some hdst hlt) (fun a hA w hw => convBytes hop ht he hi hie ht' hstr (by rw [hA.eval hx, hu]; exact hv w hw)) (by rw [put_some hdst]; exact kk)
end
end Go.Proofs.YtnfcbpgckomdfaaDoor
