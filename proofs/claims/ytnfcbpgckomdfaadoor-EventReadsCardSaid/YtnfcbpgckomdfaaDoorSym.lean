/- Walks by reckoning: the slots of a frame as a list, operations without memory run by a function, and a rule for each form of code. For all of this seat's walks. -/
import Derived.Test.YtnfcbpgckomdfaaDoorSep
namespace Go.Proofs.YtnfcbpgckomdfaaDoor

/-! ## slots -/
/-- What is known of a slot: its value; of a bool that is known the word is apart, so that it can be asked for. -/
inductive Ent where
  | v (x : Value)
  | t
  | f
def Ent.val : Ent → Value
  | .v x => x
  | .t => .bool true
  | .f => .bool false
abbrev Tm := List (Nat × Ent)
def Tm.get : Tm → Nat → Option Ent
  | [], _ => none
  | (k, v) :: r, t => match Nat.beq k t with
    | true => some v
    | false => Tm.get r t
structure Agree (n : Nat) (tm : Tm) (a : Act) : Prop where
  defers : a.defers = []
  size : a.tmps.size = n
  get : ∀ t e, tm.get t = some e → a.tmps[t]? = some e.val
def opd (tm : Tm) : Operand → Option Ent
  | .tmp t => tm.get t
  | .const (.bool true) => some .t
  | .const (.bool false) => some .f
  | .const v => some (.v v)
  | .global g => some (.v (.pointer (some ⟨g, 0, none⟩)))
  | .func f => some (.v (.func (.func f) #[] #[]))
theorem Agree.eval {n : Nat} {tm : Tm} {a : Act} (h : Agree n tm a) {x : Operand} {e : Ent} (he : opd tm x = some e) : a.eval x = e.val := by
  unfold opd at he
  split at he
  · have := h.get _ e he; simp [Act.eval, Array.getD_eq_getD_getElem?, this]
  all_goals (have := Option.some.inj he; subst this; rfl)
/-- A slot's value. -/
def getV (tm : Tm) (t : Nat) : Option Value := match tm.get t with
  | some (.v x) => some x
  | some .t => some (.bool true)
  | some .f => some (.bool false)
  | none => none
theorem getV_ok {n : Nat} {tm : Tm} {a : Act} (h : Agree n tm a) {t : Nat} {v : Value} (he : getV tm t = some v) : a.tmps[t]? = some v := by
  unfold getV at he
  split at he <;> first
    | (rename_i hg; have := Option.some.inj he; subst this; exact h.get _ _ hg)
    | cases he
def Tm.put (tm : Tm) (d : Option Tmp) (v : Value) : Tm := match d with
  | some d => (d, .v v) :: tm
  | none => tm
def dstOk (n : Nat) : Option Tmp → Bool
  | some d => Nat.blt d n
  | none => true
theorem Agree.cons {n : Nat} {tm : Tm} {a : Act} (h : Agree n tm a) {d : Tmp} (hlt : d < n) (e : Ent) : Agree n ((d, e) :: tm) (a.put (some d) e.val) := by
  refine ⟨h.defers, by simp [Act.put, h.size], fun t u he => ?_⟩
  simp only [Tm.get] at he
  simp only [Act.put]
  cases hb : Nat.beq d t with
  | true =>
    rw [hb] at he
    have := Nat.eq_of_beq_eq_true hb
    subst this
    have := Option.some.inj he
    subst this
    rw [Array.getElem?_setIfInBounds_self_of_lt (by rw [h.size]; exact hlt)]
  | false =>
    rw [hb] at he
    have : d ≠ t := Nat.ne_of_beq_eq_false hb
    rw [Array.getElem?_setIfInBounds_ne this]; exact h.get t u he
theorem Agree.put {n : Nat} {tm : Tm} {a : Act} (h : Agree n tm a) {d : Option Tmp} (hd : dstOk n d = true) (v : Value) : Agree n (tm.put d v) (a.put d v) := by
  cases d with
  | none => exact h
  | some d => exact h.cons (by simpa [dstOk, Nat.blt_eq] using hd) (.v v)
/-- What a list of slots says is said by another. -/
def Sub : Tm → Tm → Prop
  | [], _ => True
  | (t, v) :: r, tm => (tm.get t).map Ent.val = some v.val ∧ Sub r tm
theorem Agree.more {n : Nat} {tm : Tm} {a : Act} (h : Agree n tm a) {t : Nat} {e : Ent} (he : a.tmps[t]? = some e.val) : Agree n ((t, e) :: tm) a := by
  refine ⟨h.defers, h.size, fun t' e' h' => ?_⟩
  simp only [Tm.get] at h'
  cases hb : Nat.beq t t' with
  | true => rw [hb] at h'; have := Option.some.inj h'; subst this; have := Nat.eq_of_beq_eq_true hb; subst this; exact he
  | false => rw [hb] at h'; exact h.get t' e' h'
theorem Agree.sub {n : Nat} {tm : Tm} {a : Act} (h : Agree n tm a) : ∀ {tm' : Tm}, Sub tm' tm → Agree n tm' a
  | [], _ => ⟨h.defers, h.size, fun t v e => by simp [Tm.get] at e⟩
  | (t, v) :: r, ⟨e, s⟩ => by
    refine (h.sub s).more ?_
    cases hg : tm.get t with
    | none => rw [hg] at e; simp at e
    | some u => rw [hg] at e; simp at e; rw [← e]; exact h.get t u hg

/-! ## types -/
structure TI where
  desc : TypeDesc
  size : Nat
  bytes : Nat
  zero : Value
abbrev Ty := List (Nat × TI)
def Ty.get : Ty → Nat → Option TI
  | [], _ => none
  | (k, v) :: r, t => match Nat.beq k t with
    | true => some v
    | false => Ty.get r t
structure TI.ok (P : Program) (t : TypeId) (i : TI) : Prop where
  under : P.underlying t = some i.desc
  told : (P.info? t).map (fun j => (j.size, j.bytes, j.zero)) = some (i.size, i.bytes, some i.zero)
theorem TI.ok.info {P : Program} {t : TypeId} {i : TI} (h : i.ok P t) : ∃ j, P.info? t = some j ∧ j.size = i.size ∧ j.bytes = i.bytes ∧ j.zero = some i.zero := by
  have := h.told
  cases hj : P.info? t with
  | none => rw [hj] at this; simp at this
  | some j => rw [hj] at this; simp at this; exact ⟨j, rfl, this⟩
def TyOk (P : Program) (T : Ty) : Prop := ∀ t i, T.get t = some i → i.ok P t
theorem TyOk.nil (P : Program) : TyOk P [] := fun t i e => by simp [Ty.get] at e
theorem TyOk.cons {P : Program} {T : Ty} {t : Nat} {i : TI} (h : i.ok P t) (r : TyOk P T) : TyOk P ((t, i) :: T) := fun t' i' e => by
  simp only [Ty.get] at e
  cases hb : Nat.beq t t' with
  | true => rw [hb] at e; simp at e; subst e; have := Nat.eq_of_beq_eq_true hb; subst this; exact h
  | false => rw [hb] at e; exact r t' i' e
section
variable {P : Program} {T : Ty} (hT : TyOk P T) {t : TypeId} {i : TI} (h : T.get t = some i)
include hT h
theorem TyOk.under (w : World) : (underlying t).run P w = .ok i.desc w := run_underlying (hT t i h).under w
theorem TyOk.sizeOf (w : World) : (sizeOf t).run P w = .ok i.size w := by
  obtain ⟨j, h1, h2, _, _⟩ := (hT t i h).info
  simp [Go.sizeOf, typeInfo, h1, h2]
theorem TyOk.zeroOf (w : World) : (zeroValue t).run P w = .ok i.zero w := by
  obtain ⟨j, h1, _, _, h2⟩ := (hT t i h).info
  simp [Go.zeroValue, typeInfo, h1, h2]
end

/-! ## operations without memory, run -/
def intBin (op : BinOp) (k : IntKind) (a b : Int) : Option Value := match op with
  | .add => some (.int k (k.wrap (a + b)))
  | .sub => some (.int k (k.wrap (a - b)))
  | .mul => some (.int k (k.wrap (a * b)))
  | .quo => match decide (b = 0) with
    | true => none
    | false => some (.int k (k.wrap (a.tdiv b)))
  | .rem => match decide (b = 0) with
    | true => none
    | false => some (.int k (a.tmod b))
  | .and => some (.int k (k.wrap (BitVec.ofInt k.bits a &&& BitVec.ofInt k.bits b).toNat))
  | .or => some (.int k (k.wrap (BitVec.ofInt k.bits a ||| BitVec.ofInt k.bits b).toNat))
  | .xor => some (.int k (k.wrap (BitVec.ofInt k.bits a ^^^ BitVec.ofInt k.bits b).toNat))
  | .andNot => some (.int k (k.wrap (BitVec.ofInt k.bits a &&& ~~~BitVec.ofInt k.bits b).toNat))
  | .eql => some (.bool (a == b))
  | .neq => some (.bool (a != b))
  | .lss => some (.bool (a < b))
  | .leq => some (.bool (a ≤ b))
  | .gtr => some (.bool (a > b))
  | .geq => some (.bool (a ≥ b))
  | _ => none
def intShift (op : BinOp) (k : IntKind) (a b : Int) : Option Value := match decide (b < 0) with
  | true => none
  | false => match op with
    | .shl => some (.int k (k.wrap (a * 2 ^ min b.toNat k.bits)))
    | .shr => some (.int k (a.fdiv (2 ^ min b.toNat k.bits)))
    | _ => none
def isShift : BinOp → Bool
  | .shl | .shr => true
  | _ => false
/-- What asks whether a number is 0, or below 0, is run for constants alone. -/
def needsConst : BinOp → Bool
  | .shl | .shr | .quo | .rem => true
  | _ => false
def binE (op : BinOp) : Value → Value → Option Value
  | .int k a, .int k' b => match isShift op with
    | true => intShift op k a b
    | false => match decide (k = k') with
      | true => intBin op k a b
      | false => none
  | .string a, .string b => match op with
    | .eql => some (.bool (a.toList == b.toList))
    | .neq => some (.bool !(a.toList == b.toList))
    | _ => none
  | _, _ => none
def unE (op : UnOp) : Value → Option Value
  | .int k n => match op with
    | .neg => some (.int k (k.wrap (0 - n)))
    | .xor => some (.int k (k.wrap (BitVec.ofInt k.bits (if k.signed then -1 else k.max) ^^^ BitVec.ofInt k.bits n).toNat))
    | _ => none
  | .bool b => match op with
    | .not => some (.bool !b)
    | _ => none
  | _ => none
/-- The operations that need no memory, no type and no bound. -/
def entE : Option Value → Option Ent
  | some v => some (.v v)
  | none => none
def nthV : List Value → Nat → Option Ent
  | [], _ => none
  | v :: _, 0 => some (Ent.v v)
  | _ :: l, n + 1 => nthV l n
def pev (tm : Tm) : Op → Option Ent
  | .move x => opd tm x
  | .assign x => opd tm x
  | .pick c a b => match opd tm c with
    | some .t => opd tm a
    | some .f => opd tm b
    | _ => none
  | .binOp op _ x y _ => match needsConst op with
    | true => match y with
      | .const v => match opd tm x with
        | some u => entE (binE op u.val v)
        | none => none
      | _ => none
    | false => match opd tm x with
      | some u => match opd tm y with
        | some v => entE (binE op u.val v.val)
        | none => none
      | none => none
  | .unOp op _ x => match opd tm x with
    | some (.v u) => entE (unE op u)
    | some .t => match op with
      | .not => some .f
      | _ => none
    | some .f => match op with
      | .not => some .t
      | _ => none
    | none => none
  | .extract x i => match opd tm x with
    | some (.v (.tuple vs)) => nthV vs.toList i
    | _ => none
  | .nilCheck x => match opd tm x with
    | some (.v (.pointer (some a))) => some (.v (.pointer (some a)))
    | _ => none
  | _ => none
theorem entE_ok {o : Option Value} {e : Ent} (h : entE o = some e) : o = some e.val := by
  cases o with
  | none => cases h
  | some v => simp [entE] at h; subst h; rfl
theorem nthV_ok : ∀ {l : List Value} {i : Nat} {e : Ent}, nthV l i = some e → l[i]? = some e.val
  | [], _, _, h => by simp [nthV] at h
  | v :: _, 0, e, h => by simp [nthV] at h; subst h; rfl
  | _ :: l, i + 1, e, h => by simpa using nthV_ok (l := l) (by simpa [nthV] using h)
theorem binE_ok {P : Program} {op : BinOp} {t : TypeId} {u v z : Value} (h : binE op u v = some z) (x y : Operand) (w : World) :
    (do eqGuard op t x y u v; binOp op t u v : Sem Value).run P w = .ok z w := by
  unfold binE at h
  split at h
  · rename_i k a k' b
    have hg : eqGuard op t x y (.int k a) (.int k' b) = Pure.pure () := by unfold eqGuard; cases op <;> rfl
    rw [hg]
    simp only [Sem.run_bind, Sem.run_pure, Result.andThen_ok]
    split at h
    · rename_i hs
      unfold intShift at h
      split at h
      · cases h
      · rename_i hb
        have hb' : ¬ b < 0 := of_decide_eq_false hb
        cases op <;> simp [isShift] at hs <;> simp only [binOp, Op.shift, if_neg hb'] <;> simp at h <;> subst h <;> rfl
    · rename_i hs
      split at h
      · rename_i hk
        have := of_decide_eq_true hk
        subst this
        cases op <;> simp [isShift] at hs <;> simp only [intBin] at h <;> first
          | (simp at h; subst h; simp [binOp, Op.intArith, Op.intCmp, Op.intBits]; done)
          | (split at h
             · cases h
             · rename_i hb
               have hb' := of_decide_eq_false hb
               simp at h; subst h; simp [binOp, Op.intDiv, hb'])
          | cases h
      · cases h
  · rename_i a b
    have hg : eqGuard op t x y (.string a) (.string b) = Pure.pure () := by unfold eqGuard; cases op <;> rfl
    rw [hg]
    simp only [Sem.run_bind, Sem.run_pure, Result.andThen_ok]
    split at h <;> first | (simp at h; done) | (simp at h; subst h; rfl)
  · cases h
theorem pev_ok {P : Program} {n : Nat} {tm : Tm} {a : Act} {o : Oper} {e : Ent} (hA : Agree n tm a) (h : pev tm o.op = some e) (w : World) :
    (execOp a.eval o).run P w = .ok (.value e.val) w := by
  unfold execOp
  cases ho : o.op with
  | move x => rw [ho] at h; simp [hA.eval (show opd tm x = some e from h)]
  | assign x => rw [ho] at h; simp [hA.eval (show opd tm x = some e from h)]
  | pick c x y =>
    rw [ho] at h; simp only [pev] at h
    split at h
    · rename_i hc; simp [hA.eval hc, hA.eval h, asBool, Ent.val]
    · rename_i hc; simp [hA.eval hc, hA.eval h, asBool, Ent.val]
    · cases h
  | binOp op t x y t' =>
    rw [ho] at h; simp only [pev] at h
    split at h
    · split at h <;> try (cases h; done)
      rename_i v' 
      split at h <;> try (cases h; done)
      rename_i u hu
      have := binE_ok (P := P) (t := t) (entE_ok h) x (.const v') w
      have hc : a.eval (.const v') = v' := rfl
      simp only [hA.eval hu, hc]
      simp only [Sem.run_bind] at this ⊢
      simp only [this, Result.andThen_ok, Sem.run_pure]
    split at h
    · rename_i u hu
      split at h
      · rename_i v' hv
        have := binE_ok (P := P) (t := t) (entE_ok h) x y w
        simp only [hA.eval hu, hA.eval hv]
        simp only [Sem.run_bind] at this ⊢
        simp only [this, Result.andThen_ok, Sem.run_pure]
      · cases h
    · cases h
  | unOp op t x =>
    rw [ho] at h; simp only [pev] at h
    split at h
    · rename_i u hu
      simp only [hA.eval hu]
      have h := entE_ok h
      rw [show (Ent.v u).val = u from rfl]
      generalize e.val = z at h ⊢
      unfold unE at h
      split at h
      · split at h <;> first | (simp at h; done) | (simp at h; subst h; simp [Op.unary, Op.intArith, Op.intBits])
      · split at h <;> first | (simp at h; done) | (simp at h; subst h; simp [Op.unary])
      · cases h
    · rename_i hu
      split at h
      · simp at h; subst h; simp [hA.eval hu, Ent.val, Op.unary]
      · cases h
    · rename_i hu
      split at h
      · simp at h; subst h; simp [hA.eval hu, Ent.val, Op.unary]
      · cases h
    · cases h
  | extract x i =>
    rw [ho] at h; simp only [pev] at h
    split at h
    · rename_i vs hu
      have := nthV_ok h
      rw [Array.getElem?_toList] at this
      simp [hA.eval hu, Ent.val, Instr.extract, this]
    · cases h
  | nilCheck x =>
    rw [ho] at h; simp only [pev] at h
    split at h
    · rename_i b hu
      simp at h; subst h
      simp [hA.eval hu, Ent.val]
    · cases h
  | _ => rw [ho] at h; simp [pev] at h
end Go.Proofs.YtnfcbpgckomdfaaDoor
