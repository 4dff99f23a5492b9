/- The driver: code is gone through by a function as far as nothing is to be decided. For all of this seat's walks. -/
import Derived.Test.YtnfcbpgckomdfaaDoorOps
namespace Go.Proofs.YtnfcbpgckomdfaaDoor

/-- What waits behind the code at hand. -/
inductive Fr where
  | seq (y : Code)
  | blk (i : Nat)
  | lp (X : Act → World → Prop)
def Qof (P : Program) (Q0 : Exit → Act → World → Prop) : List Fr → Exit → Act → World → Prop
  | [] => Q0
  | .seq y :: K => Exit.then (y.wp P (Qof P Q0 K)) (Qof P Q0 K)
  | .blk i :: K => Exit.inBlock i (Qof P Q0 K)
  | .lp X :: K => Exit.then X (Qof P Q0 K)
/-- Where one is: ahead of code, within a region (in order; drawing its order), or where code has been left. -/
inductive St where
  | code (c : Code)
  | ops (ops : Array Oper) (os : List Oper)
  | drw (ops : Array Oper) (S : World → Prop) (L : List Nat)
  | ex (e : Exit)
def Good (C : Cx) (Q0 : Exit → Act → World → Prop) (s : St) (K : List Fr) (tm : Tm) (l : List HP) : Prop := match s with
  | .code c => WPc C c (Qof C.P Q0 K) tm l
  | .ops ops os => WPl C ops (Qof C.P Q0 K) os tm l
  | .drw ops S L => WPd C ops (Qof C.P Q0 K) S L tm l
  | .ex e => Pst C (Qof C.P Q0 K) e tm l
inductive Out where
  | mk (s : St) (K : List Fr) (tm : Tm)
  | bad
def adv (T : Ty) (m : Nat) : Nat → St → List Fr → Tm → Out
  | 0, s, K, tm => .mk (s) (K) tm
  | n + 1, .code c, K, tm => match c with
    | .skip => adv T m n (.ex .normal) K tm
    | .seq x y => adv T m n (.code x) (.seq y :: K) tm
    | .block i c => adv T m n (.code c) (.blk i :: K) tm
    | .exit i => adv T m n (.ex (.exit i)) K tm
    | .ret => adv T m n (.ex .ret) K tm
    | .region _ ops false => match runP T m (dsts ops) ops.toList tm with
      | .bad => .bad
      | .mk [] tm' => adv T m n (.ex .normal) K tm'
      | .mk (o :: os) tm' => .mk (.ops ops (o :: os)) K tm'
    | .region _ ops true => .mk (.drw ops noS []) (K) tm
    | .cond c x y => match opd tm c with
      | some .t => adv T m n (.code x) K tm
      | some .f => adv T m n (.code y) K tm
      | _ => .mk (.code (.cond c x y)) (K) tm
    | c => .mk (.code c) (K) tm
  | n + 1, .ops ops os, K, tm => match runP T m (dsts ops) os tm with
    | .bad => .bad
    | .mk [] tm' => adv T m n (.ex .normal) K tm'
    | .mk (o :: os') tm' => .mk (.ops ops (o :: os')) K tm'
  | _ + 1, .drw ops S L, K, tm => .mk (.drw ops S L) (K) tm
  | n + 1, .ex e, K, tm => match K with
    | [] => .mk (.ex e) ([]) tm
    | .seq y :: K' => match e with
      | .normal => adv T m n (.code y) K' tm
      | .exit i => adv T m n (.ex (.exit i)) K' tm
      | .ret => adv T m n (.ex .ret) K' tm
      | e => .mk (.ex e) (.seq y :: K') tm
    | .blk j :: K' => match e with
      | .normal => adv T m n (.ex .normal) K' tm
      | .exit i => match Nat.beq i j with
        | true => adv T m n (.ex .normal) K' tm
        | false => adv T m n (.ex (.exit i)) K' tm
      | .ret => adv T m n (.ex .ret) K' tm
      | e => .mk (.ex e) (.blk j :: K') tm
    | .lp X :: K' => match e with
      | .exit i => adv T m n (.ex (.exit i)) K' tm
      | .ret => adv T m n (.ex .ret) K' tm
      | e => .mk (.ex e) (.lp X :: K') tm

theorem adv_ok {C : Cx} {Q0 : Exit → Act → World → Prop} {l : List HP} : ∀ (n : Nat) (s : St) (K : List Fr) (tm : Tm) (s' : St) (K' : List Fr) (tm' : Tm), adv C.T C.n n s K tm = .mk s' K' tm' → Good C Q0 s' K' tm' l → Good C Q0 s K tm l := by
  intro n
  induction n with
  | zero => intro s K tm s' K' tm' h g; simp [adv] at h; obtain ⟨rfl, rfl, rfl⟩ := h; exact g
  | succ n ih =>
    intro s K tm s' K' tm' h g
    cases s with
    | code c =>
      cases c with
      | skip => exact WPc.skip (ih _ _ _ _ _ _ h g)
      | seq x y => exact WPc.seq (ih _ _ _ _ _ _ h g)
      | block i c => exact WPc.block (ih _ _ _ _ _ _ h g)
      | exit i => exact WPc.exit (ih _ _ _ _ _ _ h g)
      | ret => exact WPc.ret (ih _ _ _ _ _ _ h g)
      | region i ops d =>
        cases d with
        | false =>
          simp only [adv] at h
          have hr : WPc C (.region i ops.toList.toArray false) (Qof C.P Q0 K) tm l := by
            split at h
            · cases h
            · rename_i tm1 hrun
              exact WPc.region (WPl.run hrun (WPl.nil (ih _ _ _ _ _ _ h g)))
            · rename_i o os tm1 hrun
              simp at h; obtain ⟨rfl, rfl, rfl⟩ := h
              exact WPc.region (WPl.run hrun g)
          exact hr
        | true =>
          simp [adv] at h; obtain ⟨rfl, rfl, rfl⟩ := h
          exact WPc.draws (os := ops.toList) g
      | cond c x y =>
        simp only [adv] at h
        split at h
        · rename_i hc; exact WPc.condT hc (ih _ _ _ _ _ _ h g)
        · rename_i hc; exact WPc.condF hc (ih _ _ _ _ _ _ h g)
        · simp at h; obtain ⟨rfl, rfl, rfl⟩ := h; exact g
      | _ => simp [adv] at h; obtain ⟨rfl, rfl, rfl⟩ := h; exact g
    | ops ops os =>
      simp only [adv] at h
      split at h
      · cases h
      · rename_i tm1 hrun
        exact WPl.run hrun (WPl.nil (ih _ _ _ _ _ _ h g))
      · rename_i o os' tm1 hrun
        simp at h; obtain ⟨rfl, rfl, rfl⟩ := h
        exact WPl.run hrun g
    | drw ops S L => simp [adv] at h; obtain ⟨rfl, rfl, rfl⟩ := h; exact g
    | ex e =>
      cases K with
      | nil => simp [adv] at h; obtain ⟨rfl, rfl, rfl⟩ := h; exact g
      | cons f K1 =>
        cases f with
        | seq y =>
          cases e with
          | normal => exact Pst.next (ih _ _ _ _ _ _ h g)
          | exit i => exact Pst.thenExit (ih _ _ _ _ _ _ h g)
          | ret => exact Pst.thenRet (ih _ _ _ _ _ _ h g)
          | _ => simp [adv] at h; obtain ⟨rfl, rfl, rfl⟩ := h; exact g
        | blk j =>
          cases e with
          | normal => exact Pst.blockN (ih _ _ _ _ _ _ h g)
          | exit i =>
            simp only [adv] at h
            split at h
            · rename_i hb
              have := Nat.eq_of_beq_eq_true hb
              subst this
              exact Pst.blockE (ih _ _ _ _ _ _ h g)
            · rename_i hb
              exact Pst.blockO hb (ih _ _ _ _ _ _ h g)
          | ret => exact Pst.blockR (ih _ _ _ _ _ _ h g)
          | _ => simp [adv] at h; obtain ⟨rfl, rfl, rfl⟩ := h; exact g
        | lp X =>
          cases e with
          | exit i => exact Pst.thenExit (ih _ _ _ _ _ _ h g)
          | ret => exact Pst.thenRet (ih _ _ _ _ _ _ h g)
          | _ => simp [adv] at h; obtain ⟨rfl, rfl, rfl⟩ := h; exact g

section
variable {C : Cx} {Q0 : Exit → Act → World → Prop} {K : List Fr} {tm : Tm} {l : List HP}
/-- As far as it goes. -/
theorem Good.go {s s' : St} {K' : List Fr} {tm' : Tm} (h : adv C.T C.n 200 s K tm = .mk s' K' tm') (g : Good C Q0 s' K' tm' l) : Good C Q0 s K tm l := adv_ok _ _ _ _ _ _ _ h g
theorem Good.cond {c : Operand} {x y : Code} {b : Bool} (hc : opd tm c = some (.v (.bool b))) (t : b = true → Good C Q0 (.code x) K tm l) (f : b = false → Good C Q0 (.code y) K tm l) : Good C Q0 (.code (.cond c x y)) K tm l := WPc.cond hc t f
theorem Good.condP {c : Operand} {x y : Code} {b : Prop} [Decidable b] (hc : opd tm c = some (.v (.bool (decide b)))) (t : b → Good C Q0 (.code x) K tm l) (f : ¬ b → Good C Q0 (.code y) K tm l) : Good C Q0 (.code (.cond c x y)) K tm l := WPc.condP hc t f
theorem Good.op {ops : Array Oper} {o : Oper} {os : List Oper} (hg : guardE (dsts ops) tm o.guard = some true) (h : OpW C o tm l fun tm' l' => Good C Q0 (.ops ops os) K tm' l') : Good C Q0 (.ops ops (o :: os)) K tm l := WPl.op hg h
def gslot (ds : List (Option Tmp)) : Option (Nat × Bool) → Option Tmp
  | some (j, _) => match ds[j]? with
    | some (some d) => some d
    | _ => none
  | none => none
theorem Good.part {ops : Array Oper} {o : Oper} {os : List Oper} {d : Tmp} {b : Bool} (_ : gslot (dsts ops) o.guard = some d) (hb : tm.get d = some (.v (.bool b))) (t : b = true → Good C Q0 (.ops ops (o :: os)) K ((d, .t) :: tm) l) (f : b = false → Good C Q0 (.ops ops (o :: os)) K ((d, .f) :: tm) l) : Good C Q0 (.ops ops (o :: os)) K tm l := WPl.part hb t f
theorem Good.partP {ops : Array Oper} {o : Oper} {os : List Oper} {d : Tmp} {b : Prop} [Decidable b] (_ : gslot (dsts ops) o.guard = some d) (hb : tm.get d = some (.v (.bool (decide b)))) (t : b → Good C Q0 (.ops ops (o :: os)) K ((d, .t) :: tm) l) (f : ¬ b → Good C Q0 (.ops ops (o :: os)) K ((d, .f) :: tm) l) : Good C Q0 (.ops ops (o :: os)) K tm l := WPl.part hb (fun h => t (of_decide_eq_true h)) (fun h => f (of_decide_eq_false h))
theorem Good.drun {S : World → Prop} {ops : Array Oper} {L L' : List Nat} {tm' : Tm} (h : runI C.T C.n (dsts ops) 0 ops.toList L tm = .mk L' tm') (hs : Region.noSelect ops = true) (hm : mayTake ops L L' = true) (g : Good C Q0 (.drw ops S L') K tm' l) : Good C Q0 (.drw ops S L) K tm l :=
  WPd.run hs (fun j => by simp) h hm g
theorem Good.ddone {S : World → Prop} {ops : Array Oper} {L : List Nat} (hr : Region.ready .any ops (listedOf ops.size L) = []) (g : Good C Q0 (.ex .normal) K tm l) : Good C Q0 (.drw ops S L) K tm l := WPd.done hr g
theorem Good.done1 {S : World → Prop} {ops : Array Oper} {L : List Nat} (i : Nat) {o : Oper} (ho : ops[i]? = some o) (hr : Region.ready .any ops (listedOf ops.size L) = [i]) (hlt : Nat.blt L.length ops.size = true) (hg : guardE (dsts ops) tm o.guard = some true)
    (h : OpW C o tm l fun tm' l' => (∀ w, Sat C.W C.p l' w → S w) ∧ Good C Q0 (.drw ops S (i :: L)) K tm' l') : Good C Q0 (.drw ops S L) K tm l := WPd.one i ho hr hlt hg h
theorem Good.dtake {S : World → Prop} {ops : Array Oper} {L : List Nat} (i : Nat) {o : Oper} (v : Value) (ho : ops[i]? = some o) (hs : Region.noSelect ops = true) (hm : mayFirst ops L [i] = true) (hg : guardE (dsts ops) tm o.guard = some true) (hd : dstOk C.n o.dst = true)
    (h : ∀ a, Agree C.n tm a → ∀ w, S w → (execOp a.eval o).run C.P w = .ok (.value v) w) (k : Good C Q0 (.drw ops S (i :: L)) K (tm.put o.dst v) l) : Good C Q0 (.drw ops S L) K tm l := WPd.take i v ho hs hm hg hd h k
theorem Good.loop {c : Code} {ι : Type} (J : ι → Tm) (S : ι → List HP) (I : ι → Prop) (μ : ι → Nat) (x : ι) (hx : I x) (h0 : Sub (J x) tm) (hs : ∀ w, Sat C.W C.p l w → Sat C.W C.p (S x) w)
    (round : ∀ x, I x → Good C Q0 (.code c) (.lp (Again C J S fun y => I y ∧ μ y < μ x) :: K) (J x) (S x)) : Good C Q0 (.code (.loop c)) K tm l := WPc.loop J S I μ x hx h0 hs round
theorem Good.again {ι : Type} {J : ι → Tm} {S : ι → List HP} {ok : ι → Prop} (y : ι) (h : ok y) (ht : Sub (J y) tm) (hs : ∀ w, Sat C.W C.p l w → Sat C.W C.p (S y) w) : Good C Q0 (.ex .normal) (.lp (Again C J S ok) :: K) tm l := Pst.again y h ht hs
/-- Where ways meet: what is told of the place where the code at hand ends. -/
theorem Good.cut {x : Code} {y : Code} {ι : Type} (J : ι → Tm) (S : ι → List HP) (I : ι → Prop) (h : Good C Q0 (.code x) (.lp (Again C J S I) :: K) tm l) (k : ∀ i, I i → Good C Q0 (.code y) K (J i) (S i)) : Good C Q0 (.code x) (.seq y :: K) tm l := by
  refine fun q a w hA hS => wp_mono (h q.unthen.then a w hA hS) fun e a w hq => ?_
  cases e <;> first | exact hq | (obtain ⟨i, hi, h1, h2⟩ := hq; exact k i hi q.unthen a w h1 h2)
theorem Good.ex {α : Type} {A : α → HP} {s : St} (h : ∀ x, Good C Q0 s K tm (A x :: l)) : Good C Q0 s K tm (HP.ex A :: l) := by
  cases s <;> intro q
  · intro a w hA hS; obtain ⟨x, hx⟩ := hS.ex; exact h x q a w hA hx
  · intro a w hA hS; obtain ⟨x, hx⟩ := hS.ex; exact h x q a w hA hx
  · intro q' k hk a w hA hS; obtain ⟨x, hx⟩ := hS.ex; exact h x (fun w hw => q w (hw.unex x)) q' k hk a w hA hx
  · intro a w hA hS; obtain ⟨x, hx⟩ := hS.ex; exact h x q a w hA hx
/-- Another account of the slots and of memory. -/
def St.held : St → World → Prop
  | .drw _ S _ => S
  | _ => noS
theorem Good.weak {s : St} {tm' : Tm} {l' : List HP} (ht : Sub tm' tm) (hs : ∀ w, Sat C.W C.p l w → Sat C.W C.p l' w) (h : Good C Q0 s K tm' l') (hS : ∀ w, Sat C.W C.p l' w → s.held w := by exact fun _ _ => trivial) : Good C Q0 s K tm l := by
  cases s <;> intro q
  · exact fun a w hA hS => h q a w (hA.sub ht) (hs w hS)
  · exact fun a w hA hS => h q a w (hA.sub ht) (hs w hS)
  · exact fun q' k hk a w hA hS' => h hS q' k hk a w (hA.sub ht) (hs w hS')
  · exact fun a w hA hS => h q a w (hA.sub ht) (hs w hS)
theorem Good.mem {s : St} {l' : List HP} (hs : ∀ w, Sat C.W C.p l w → Sat C.W C.p l' w) (h : Good C Q0 s K tm l') (hS : ∀ w, Sat C.W C.p l' w → s.held w := by exact fun _ _ => trivial) : Good C Q0 s K tm l := by
  cases s <;> intro q
  · exact fun a w hA hS => h q a w hA (hs w hS)
  · exact fun a w hA hS => h q a w hA (hs w hS)
  · exact fun q' k hk a w hA hS' => h hS q' k hk a w hA (hs w hS')
  · exact fun a w hA hS => h q a w hA (hs w hS)
/-- In a region that draws its order: this is held from here on, so that it may be read at once. -/
theorem Good.hold {ops : Array Oper} {L : List Nat} (S : World → Prop) (hS : ∀ w, Sat C.W C.p l w → S w) (h : Good C Q0 (.drw ops S L) K tm l) : Good C Q0 (.drw ops noS L) K tm l := WPd.hold S hS h
end
section
variable {C : Cx} {tm : Tm} {l : List HP} {fn : Func} {R : Value → List HP → Prop}
theorem Good.ret0 {L : List HP} (h : fn.results = #[]) (hR : R (.tuple #[]) L) (hs : ∀ w, Sat C.W C.p l w → Sat C.W C.p L w) : Good C (bodyPost C.P fn (BodyR C.W C.p R)) (.ex .ret) [] tm l := Pst.ret0 h hR hs
theorem Good.end0 {L : List HP} (h : fn.results = #[]) (hR : R (.tuple #[]) L) (hs : ∀ w, Sat C.W C.p l w → Sat C.W C.p L w) : Good C (bodyPost C.P fn (BodyR C.W C.p R)) (.ex .normal) [] tm l := Pst.end0 h hR hs
theorem Good.ret1 {r : ResultVar} {v : Value} {L : List HP} (h : fn.results = #[r]) (h1 : Res C tm l r v) (hR : R v L) (hs : ∀ w, Sat C.W C.p l w → Sat C.W C.p L w) : Good C (bodyPost C.P fn (BodyR C.W C.p R)) (.ex .ret) [] tm l := Pst.ret1 h h1 hR hs
theorem Good.ret2 {r s : ResultVar} {v u : Value} {L : List HP} (h : fn.results = #[r, s]) (h1 : Res C tm l r v) (h2 : Res C tm l s u) (hR : R (.tuple #[v, u]) L) (hs : ∀ w, Sat C.W C.p l w → Sat C.W C.p L w) : Good C (bodyPost C.P fn (BodyR C.W C.p R)) (.ex .ret) [] tm l := Pst.ret2 h h1 h2 hR hs
theorem Good.ret3 {r s t : ResultVar} {v u x : Value} {L : List HP} (h : fn.results = #[r, s, t]) (h1 : Res C tm l r v) (h2 : Res C tm l s u) (h3 : Res C tm l t x) (hR : R (.tuple #[v, u, x]) L) (hs : ∀ w, Sat C.W C.p l w → Sat C.W C.p L w) : Good C (bodyPost C.P fn (BodyR C.W C.p R)) (.ex .ret) [] tm l := Pst.ret3 h h1 h2 h3 hR hs
end
/-- The beginning of a call. -/
theorem Spec.go {P : Program} {T : Ty} {hT : TyOk P T} {hm : P.follows .mixedOrders = true} {f : FuncId} {fn : Func} {c : Code} {n : Nat} {vs : List Value} {Facts : World → Hl → Prop} {pre : List HP} {R : Value → List HP → Prop}
    (hf : P.funcs[f]? = some fn) (hb : fn.body = some c) (hn : fn.ntmps = n) (hl : Nat.ble vs.length n = true)
    (h : ∀ W p, Facts W p → Good ⟨P, T, hT, hm, n, W, p⟩ (bodyPost P fn (BodyR W p R)) (.code c) [] (enumTm 0 vs) pre) : Spec P f vs.toArray Facts pre R := Spec.of hf hb hn hl h
end Go.Proofs.YtnfcbpgckomdfaaDoor
