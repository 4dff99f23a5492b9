/- append(s, x...) where x is read anywhere; calls that read memory. For all of this seat's walks. -/
import Derived.Test.YtnfcbpgckomdfaaDoorMore
namespace Go.Proofs.YtnfcbpgckomdfaaDoor
theorem append_none {P : Program} {w : World} {t ty e : TypeId} {j : TypeInfo} (hu : P.underlying t = some (.slice e)) (hj : P.info? e = some j) (b : Option Addr) (k cp : Nat) (h : k ≤ cp) (a : Option Addr) (c : Nat) :
    (Builtin.append_ #[t, t] ty #[.slice b k cp, .slice a 0 c]).run P w = .ok (.slice b k cp) w := by
  have hf : (Builtin.firstCells j.size 0 (.slice a 0 c)).run P w = .ok #[] w := by
    cases a with
    | none => simp [Builtin.firstCells]
    | some a => exact run_firstCells_some w j.size 0 a 0 c [] (by simp) (by simp)
  cases b with
  | none => simp [Builtin.append_, run_underlying hu, sizeOf, typeInfo, hj, Builtin.lenOf, h, hf]
  | some b => simp [Builtin.append_, run_underlying hu, sizeOf, typeInfo, hj, Builtin.lenOf, h, hf, storeCells]
section
variable {C : Cx} {Q0 : Exit → Act → World → Prop} {K : List Fr} {tm : Tm} {l : List HP} {ops : Array Oper} {o : Oper} {os : List Oper} {d : Tmp} {J : Tm → List HP → Prop}
theorem OpW.appendRd (n : Nat) {s x : Operand} {t e : TypeId} {it ie : TI} {v xv : Value} {xs news : List Value} {m : Nat} (ho : o.op = .call { callee := .builtin .append, args := #[s, x], argTypes := #[t, t] }) (ht : C.T.get t = some it) (he : elemE it.desc = some e) (hi : C.T.get e = some ie)
    {z : List Value} (hz : cellsL ie.zero = some z) (hz' : Nat.beq z.length ie.size = true) {u ux : Ent} (hs : opd tm s = some u) (hu : u.val = v) (hx : opd tm x = some ux) (hux : ux.val = xv) (hn : l[n]? = some (slc e ie.size v xs)) (hl : news.length = m * ie.size) (h1 : oneL news = true) (hsz : Nat.blt 0 ie.size = true) (hby : Nat.blt 0 ie.bytes = true)
    (hb : (xs.length + news.length) * ie.bytes ≤ 140737488355328 * ie.size) (hnews : ∀ w, Sat C.W C.p l w → rdAt w xv m news) (hd : dstOk C.n o.dst = true)
    (k : ∀ v', J (tm.put o.dst v') (l.set n (slc e ie.size v' (xs ++ news)))) : OpW C o tm l J := fun Kk Q hK a w hA hS => by
  subst hu hux
  have hx' : a.eval x = ux.val := hA.eval hx
  obtain ⟨ad, c, hxe, hcell⟩ := hnews w hS
  have hzs : ie.zero.cells.size = ie.size := by rw [← Nat.eq_of_beq_eq_true hz', ← cellsL_ok hz]; simp
  have key : ∃ v' w', (Builtin.append_ #[t, t] o.type #[u.val, ux.val]).run C.P w = .ok v' w' ∧ Sat C.W C.p (l.set n (slc e ie.size v' (xs ++ news))) w' := by
    rw [hxe]
    by_cases h0 : m = 0
    · subst h0
      have hnil : news = [] := List.length_eq_zero_iff.1 (by simpa using hl)
      subst hnil
      obtain ⟨j, hj, _⟩ := (C.ok e ie hi).info
      have hu := (C.ok t it ht).under
      rw [elemE_ok he] at hu
      have hset : l.set n (slc e ie.size u.val (xs ++ [])) = l := by
        obtain ⟨h1, h2⟩ := List.getElem?_eq_some_iff.1 hn
        rw [List.append_nil, ← h2]; exact List.set_getElem_self h1
      refine ⟨u.val, w, ?_, by rw [hset]; exact hS⟩
      rcases (hS.front' n hn).slcOpen with ⟨hv, _, _⟩ | ⟨g, k, cp, rest, hv, _, a3, _⟩
      · rw [hv]; exact append_none hu hj _ _ _ (Nat.le_refl _) _ _
      · rw [hv]; exact append_none hu hj _ _ _ a3 _ _
    · have hpos : 0 < news.length := by
        rw [hl]; exact Nat.mul_pos (by omega) (by simpa [Nat.blt_eq] using hsz)
      obtain ⟨g, off, rfl, _⟩ := hcell 0 _ (List.getElem?_eq_getElem hpos)
      refine append_run n ht he hi hzs hn (by omega) hl h1 (by simpa [Nat.blt_eq] using hsz) hb (by simpa [Nat.blt_eq] using hby) hS (fun j x hj => ?_) o.type
      obtain ⟨g', off', h2, h3⟩ := hcell j x hj
      cases h2
      rw [addr_add]; exact h3
  obtain ⟨v', w', hr, hs'⟩ := key
  have hrun : (execOp a.eval o).run C.P w = .ok (.value v') w' := by
    unfold execOp
    simp only [ho, resolve, invoke, builtin, Sem.run_bind, Sem.run_pure, Result.andThen_ok, List.map_toArray, List.map_cons, List.map_nil, hA.eval hs, hx', hr]
  show o.wp C.P a w Kk Q
  unfold Oper.wp
  rw [hrun]
  exact hK _ _ (k v') _ _ (hA.put hd v') hs'
theorem sat_nil {W w : World} {p : Hl} {l : List HP} {q r : Hl} (hq : sepL [] q) (h : sepL l r) (hle : Hl.le (q.un r) w) (u : Upd W p (q.un r) w) : q = Hl.nil ∧ Sat W p l w := by
  have : q = Hl.nil := hq
  subst this
  rw [Hl.nil_un] at hle u
  exact ⟨rfl, r, h, hle, u⟩
/-- A call that is handed no memory, and reads some. -/
theorem Good.callR {f : FuncId} {xs : List Operand} {ats : Array TypeId} {vs : List Value} {Facts : World → Hl → Prop} {R : Value → List HP → Prop} (S : Spec C.P f vs.toArray Facts [] R) (hc : CallOk C.P f) (hF : ∀ w, Sat C.W C.p l w → Facts w Hl.nil) (kk : ∀ v L, R v L → Good C Q0 (.ops ops os) K ((d, .v v) :: tm) (L ++ l))
    (hg : guardE (dsts ops) tm o.guard = some true := by rfl) (hdst : o.dst = some d := by rfl) (hlt : Nat.blt d C.n = true := by rfl) (ho : o.op = .call { callee := .value (.func f), args := xs.toArray, argTypes := ats } := by rfl) (ha : opds tm xs = some vs := by rfl) : Good C Q0 (.ops ops (o :: os)) K tm l := by
  have S' : Spec C.P f vs.toArray (fun w q => q = Hl.nil → Facts w q) [] R := fun w q hq hle hf => S w q hq hle (hf hq)
  refine Good.op hg (OpW.call (pre := []) (fr := l) S' hc ho (dst_some hdst hlt) ha (List.Perm.refl _) (fun w q r h1 h2 h3 h4 hq => ?_) fun v L h => by rw [put_some hdst]; exact kk v L h)
  subst hq
  rw [Hl.nil_un] at h3 h4
  exact hF w ⟨r, h1, h3, h4⟩
theorem Rd.nil {w : World} {v : Value} {n : Nat} {xs : List Value} (h : rdAt w v n xs) : Rd v n xs w Hl.nil := ⟨h, fun _ _ _ _ _ => rfl⟩
/-- What a slice of the call's own reads. -/
theorem Sat.slcRd {W w : World} {p : Hl} {l : List HP} {e : TypeId} {v : Value} {m sz : Nat} {xs : List Value} (n : Nat) (s : Sat W p l w) (hn : l[n]? = some (slc e sz v xs)) (hsz : 0 < sz) (hm : xs.length = m * sz) : rdAt w v m xs := by
  rcases (s.front' n hn).slcOpen with ⟨rfl, rfl, _⟩ | ⟨g, k, cp, rest, rfl, a2, a3, a4, a5, s'⟩
  · have : m = 0 := by
      rcases Nat.eq_zero_or_pos m with h | h
      · exact h
      · have := Nat.mul_pos h hsz; simp at hm; omega
    subst this
    exact ⟨none, 0, rfl, fun j u hj => by simp at hj⟩
  · have : k = m := Nat.eq_of_mul_eq_mul_right hsz (by rw [← a2, hm])
    subst this
    refine ⟨_, cp, rfl, fun j u hj => ⟨g, 0, rfl, ?_⟩⟩
    refine s'.cell 0 rfl ?_
    rw [Nat.zero_add, List.getElem?_append_left (List.getElem?_eq_some_iff.1 hj).1]; exact hj
theorem Yv.boolNe {t t' : TypeId} {i : TI} {x y : Operand} {p q : Bool} (ho : o.op = .binOp .neq t x y t') (hx : opd tm x = some (.v (.bool p))) (hy : opd tm y = some (.v (.bool q))) (ht : C.T.get t = some i) (hd : i.desc = .bool) : Yv C tm o (.bool (!(p == q))) := fun a hA w => by
  have hx' : a.eval x = .bool p := hA.eval hx
  have hy' : a.eval y = .bool q := hA.eval hy
  have hu := (C.ok t i ht).under
  rw [hd] at hu
  have hg : eqGuard .neq t x y (.bool p) (.bool q) = Pure.pure () := by unfold eqGuard; rfl
  have h : ∀ d : Nat, (Op.equalIn (d + 1) t (.bool p) (.bool q)).run C.P w = .ok (p == q) w := fun d => run_equalIn_bool w d t p q hu
  unfold execOp
  simp only [ho, hx', hy', hg, binOp, Sem.run_bind, Sem.run_pure, Result.andThen_ok]
  simp [Op.equal, Op.maxDepth, h 9999]
end
end Go.Proofs.YtnfcbpgckomdfaaDoor
