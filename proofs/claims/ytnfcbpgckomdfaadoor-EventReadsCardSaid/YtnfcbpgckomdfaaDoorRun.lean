/- Rules for code, by reckoned slots and parts of memory. For all of this seat's walks. -/
import Derived.Test.YtnfcbpgckomdfaaDoorSym
namespace Go.Proofs.YtnfcbpgckomdfaaDoor

/-- What a walk goes by: the program, its types, how many slots, the world at the beginning and what of it is held. -/
structure Cx where
  P : Program
  T : Ty
  ok : TyOk P T
  mixed : P.follows .mixedOrders = true
  n : Nat
  W : World
  p : Hl

/-! ## operations that know types -/
def listSet : List Value → Nat → List Value → Option (List Value)
  | [], 0, [] => some []
  | x :: l, 0, [] => some (x :: l)
  | _ :: l, 0, v :: vs => match listSet l 0 vs with
    | some r => some (v :: r)
    | none => none
  | [], 0, _ :: _ => none
  | x :: l, i + 1, vs => match listSet l i vs with
    | some r => some (x :: r)
    | none => none
  | [], _ + 1, _ => none

def isRow : TypeDesc → Bool
  | .struct _ => true
  | .array _ _ => true
  | _ => false
def fieldsE : List Field → Nat → Option (Nat × TypeId)
  | [], _ => none
  | ⟨_, ty, off, _, _, _, _⟩ :: _, 0 => some (off, ty)
  | _ :: l, n + 1 => fieldsE l n
theorem fieldsE_ok : ∀ {l : List Field} {n off : Nat} {ty : TypeId}, fieldsE l n = some (off, ty) → ∃ f, l[n]? = some f ∧ f.offset = off ∧ f.type = ty
  | [], _, _, _, h => by simp [fieldsE] at h
  | f :: _, 0, off, ty, h => by simp [fieldsE] at h; exact ⟨f, rfl, h.1, h.2⟩
  | _ :: l, n + 1, off, ty, h => by simpa using fieldsE_ok (l := l) (n := n) (by simpa [fieldsE] using h)
def fieldOff (d : TypeDesc) (f : Nat) : Option (Nat × TypeId) := match d with
  | .struct fs => fieldsE fs.toList f
  | _ => none
/-- Struct values and field places, lengths, conversions of numbers, interface values. -/
def pevT (T : Ty) (tm : Tm) (o : Op) : Option Ent := match o with
  | .fieldAddr t x f => match T.get t with
    | some i => match fieldOff i.desc f with
      | some (off, ft) => match T.get ft with
        | some j => match Nat.beq j.size 0 with
          | true => none
          | false => match opd tm x with
            | some (.v (.pointer (some ⟨g, k, none⟩))) => some (.v (.pointer (some ⟨g, k + off, none⟩)))
            | _ => none
        | none => none
      | none => none
    | none => none
  | .convert s d x => match T.get s with
    | some _ => match T.get d with
      | some i => match i.desc with
        | .int k => match opd tm x with
          | some (.v (.int _ n)) => some (.v (.int k (k.wrap n)))
          | _ => none
        | _ => none
      | none => none
    | none => none
  | .makeInterface t x => match T.get t with
    | some i => match i.desc with
      | .interface _ => none
      | _ => match opd tm x with
        | some e => some (.v (.iface t e.val))
        | none => none
    | none => none
  | .call c => match c.callee with
    | .builtin .len => match c.args.toList with
      | [x] => match c.argTypes.toList with
        | [t] => match T.get t with
          | some i => match i.desc with
            | .string => match opd tm x with
              | some (.v (.string s)) => some (.v (.int .i64 s.size))
              | _ => none
            | .slice _ => match opd tm x with
              | some (.v (.slice _ n _)) => some (.v (.int .i64 n))
              | _ => none
            | _ => none
          | none => none
        | _ => none
      | _ => none
    | _ => none
  | o => pev tm o

theorem fieldPlace_ok {P : Program} {T : Ty} (hT : TyOk P T) {f : Field} {j : TI} (h : T.get f.type = some j) (hz : Nat.beq j.size 0 = false) (a : Addr) (w : World) :
    (fieldPlace a f).run P w = .ok (a.add f.offset) w := by
  have hn : j.size ≠ 0 := Nat.ne_of_beq_eq_false hz
  unfold fieldPlace
  simp [hT.sizeOf h, hn]
theorem addr_add (g k n : Nat) : (⟨g, k, none⟩ : Addr).add n = ⟨g, k + n, none⟩ := by
  unfold Addr.add; split
  · rename_i h; subst h; rfl
  · rfl
theorem pevT_ok {P : Program} {T : Ty} (hT : TyOk P T) {n : Nat} {tm : Tm} {a : Act} {o : Oper} {e : Ent} (hA : Agree n tm a) (h : pevT T tm o.op = some e) (w : World) :
    (execOp a.eval o).run P w = .ok (.value e.val) w := by
  cases ho : o.op with
  | fieldAddr t x f =>
    rw [ho] at h; simp only [pevT] at h
    split at h <;> try (cases h; done)
    rename_i i hi
    split at h <;> try (cases h; done)
    rename_i off ft hf
    split at h <;> try (cases h; done)
    rename_i j hj
    split at h <;> try (cases h; done)
    rename_i hz
    split at h <;> try (cases h; done)
    rename_i g k hx
    simp at h; subst h
    unfold execOp; simp only [ho, hA.eval hx, Ent.val]
    unfold fieldOff at hf
    split at hf <;> try (cases hf; done)
    rename_i fs hd
    obtain ⟨fl, hfl, rfl, rfl⟩ := fieldsE_ok hf
    rw [Array.getElem?_toList] at hfl
    have hu := hT.under hi w
    rw [hd] at hu
    simp only [Instr.fieldAt, Sem.run_bind, hu, Result.andThen_ok, hfl, Instr.sureAddr, Sem.run_pure, fieldPlace_ok hT hj hz, addr_add]
  | convert s d x =>
    rw [ho] at h; simp only [pevT] at h
    split at h <;> try (cases h; done)
    rename_i i hi
    split at h <;> try (cases h; done)
    rename_i j hj
    split at h <;> try (cases h; done)
    rename_i k hk
    split at h <;> try (cases h; done)
    rename_i m hx
    simp at h; subst h
    unfold execOp; simp only [ho, hA.eval hx, Ent.val]
    have h2 := hT.under hj w
    rw [hk] at h2
    simp only [convert, Sem.run_bind, hT.under hi w, h2, Result.andThen_ok, Conv.intToInt, Sem.run_pure]
  | makeInterface t x =>
    rw [ho] at h; simp only [pevT] at h
    split at h <;> try (cases h; done)
    rename_i i hi
    split at h <;> try (cases h; done)
    rename_i hni
    split at h <;> try (cases h; done)
    rename_i u hx
    simp at h; subst h
    unfold execOp; simp only [ho, hA.eval hx, Ent.val, Instr.makeInterface, Sem.run_bind, hT.under hi w, Result.andThen_ok]
    simp
  | call c =>
    rw [ho] at h; simp only [pevT] at h
    split at h <;> try (cases h; done)
    rename_i hc
    split at h <;> try (cases h; done)
    rename_i x hx
    split at h <;> try (cases h; done)
    rename_i t ht
    split at h <;> try (cases h; done)
    rename_i i hi
    have ha : c.args = #[x] := by rw [← Array.toArray_toList (xs := c.args), hx]
    have hb : c.argTypes = #[t] := by rw [← Array.toArray_toList (xs := c.argTypes), ht]
    have hu := hT.under hi w
    split at h <;> try (cases h; done)
    · rename_i hd
      split at h <;> try (cases h; done)
      rename_i s hs
      simp at h; subst h
      rw [hd] at hu
      unfold execOp; simp only [ho, resolve, hc, ha, hb, invoke, builtin, Sem.run_bind, Sem.run_pure, Result.andThen_ok, List.map_toArray, List.map_cons, List.map_nil, hA.eval hs, Ent.val, Builtin.len_]
      simp [hu, goInt]
    · rename_i el hd
      split at h <;> try (cases h; done)
      rename_i ad m c' hs
      simp at h; subst h
      rw [hd] at hu
      unfold execOp; simp only [ho, resolve, hc, ha, hb, invoke, builtin, Sem.run_bind, Sem.run_pure, Result.andThen_ok, List.map_toArray, List.map_cons, List.map_nil, hA.eval hs, Ent.val, Builtin.len_]
      simp [hu, goInt]
  | _ => rw [ho] at h; exact pev_ok hA (by rw [ho]; exact h) w

/-! ## the judgements -/
/-- Of a panic nothing is accepted. -/
def QOk (Q : Exit → Act → World → Prop) : Prop := ∀ c a w, ¬ Q (.panic c) a w
theorem QOk.then {K : Act → World → Prop} {Q : Exit → Act → World → Prop} (h : QOk Q) : QOk (Exit.then K Q) := fun c a w q => h c a w q
theorem QOk.unthen {K : Act → World → Prop} {Q : Exit → Act → World → Prop} (h : QOk (Exit.then K Q)) : QOk Q := fun c a w q => h c a w q
theorem QOk.inBlock {i : Nat} {Q : Exit → Act → World → Prop} (h : QOk Q) : QOk (Exit.inBlock i Q) := fun c a w q => h c a w q
theorem QOk.unblock {i : Nat} {Q : Exit → Act → World → Prop} (h : QOk (Exit.inBlock i Q)) : QOk Q := fun c a w q => h c a w q

/-- In such a state. -/
def At (C : Cx) (tm : Tm) (l : List HP) (X : Act → World → Prop) : Prop := ∀ a w, Agree C.n tm a → Sat C.W C.p l w → X a w
def WPc (C : Cx) (c : Code) (Q : Exit → Act → World → Prop) (tm : Tm) (l : List HP) : Prop := QOk Q → At C tm l (c.wp C.P Q)
def WPl (C : Cx) (ops : Array Oper) (Q : Exit → Act → World → Prop) (os : List Oper) (tm : Tm) (l : List HP) : Prop := QOk Q → At C tm l (wpList C.P ops Q os)
def Pst (C : Cx) (Q : Exit → Act → World → Prop) (e : Exit) (tm : Tm) (l : List HP) : Prop := QOk Q → At C tm l (Q e)

section
variable {C : Cx} {Q : Exit → Act → World → Prop} {tm : Tm} {l : List HP}
theorem WPc.seq {x y : Code} (h : WPc C x (Exit.then (y.wp C.P Q) Q) tm l) : WPc C (x.seq y) Q tm l := fun q a w hA hS => wp_seq (h q.then a w hA hS)
theorem WPc.skip (h : Pst C Q .normal tm l) : WPc C .skip Q tm l := fun q a w hA hS => wp_skip (h q a w hA hS)
theorem WPc.ret (h : Pst C Q .ret tm l) : WPc C .ret Q tm l := fun q a w hA hS => wp_ret (h q a w hA hS)
theorem WPc.exit {i : Nat} (h : Pst C Q (.exit i) tm l) : WPc C (.exit i) Q tm l := fun q a w hA hS => wp_exit (h q a w hA hS)
theorem WPc.block {i : Nat} {c : Code} (h : WPc C c (Exit.inBlock i Q) tm l) : WPc C (.block i c) Q tm l := fun q a w hA hS => wp_block (h q.inBlock a w hA hS)
theorem WPc.region {i : Nat} {os : List Oper} (h : WPl C os.toArray Q os tm l) : WPc C (.region i os.toArray false) Q tm l := fun q a w hA hS => wp_region_lit (h q a w hA hS)
theorem WPc.cond {c : Operand} {x y : Code} {b : Bool} (hc : opd tm c = some (.v (.bool b))) (t : b = true → WPc C x Q tm l) (f : b = false → WPc C y Q tm l) : WPc C (.cond c x y) Q tm l :=
  fun q a w hA hS => wp_cond_split (hA.eval hc) (fun h => t h q a w hA hS) (fun h => f h q a w hA hS)
theorem WPc.condP {c : Operand} {x y : Code} {b : Prop} [Decidable b] (hc : opd tm c = some (.v (.bool (decide b)))) (t : b → WPc C x Q tm l) (f : ¬ b → WPc C y Q tm l) : WPc C (.cond c x y) Q tm l :=
  WPc.cond hc (fun h => t (of_decide_eq_true h)) (fun h => f (of_decide_eq_false h))
theorem WPc.condT {c : Operand} {x y : Code} (hc : opd tm c = some .t) (t : WPc C x Q tm l) : WPc C (.cond c x y) Q tm l := fun q a w hA hS => wp_cond_true (hA.eval hc) (t q a w hA hS)
theorem WPc.condF {c : Operand} {x y : Code} (hc : opd tm c = some .f) (f : WPc C y Q tm l) : WPc C (.cond c x y) Q tm l := fun q a w hA hS => wp_cond_false (hA.eval hc) (f q a w hA hS)
theorem Pst.next {y : Code} (h : WPc C y Q tm l) : Pst C (Exit.then (y.wp C.P Q) Q) .normal tm l := fun q a w hA hS => h q.unthen a w hA hS
theorem Pst.thenExit {K : Act → World → Prop} {i : Nat} (h : Pst C Q (.exit i) tm l) : Pst C (Exit.then K Q) (.exit i) tm l := fun q a w hA hS => h q.unthen a w hA hS
theorem Pst.thenRet {K : Act → World → Prop} (h : Pst C Q .ret tm l) : Pst C (Exit.then K Q) .ret tm l := fun q a w hA hS => h q.unthen a w hA hS
theorem Pst.blockN {i : Nat} (h : Pst C Q .normal tm l) : Pst C (Exit.inBlock i Q) .normal tm l := fun q a w hA hS => h q.unblock a w hA hS
theorem Pst.blockR {i : Nat} (h : Pst C Q .ret tm l) : Pst C (Exit.inBlock i Q) .ret tm l := fun q a w hA hS => h q.unblock a w hA hS
theorem Pst.blockE {i : Nat} (h : Pst C Q .normal tm l) : Pst C (Exit.inBlock i Q) (.exit i) tm l := fun q a w hA hS => by
  show (if i = i then _ else _); rw [if_pos rfl]; exact h q.unblock a w hA hS
theorem Pst.blockO {i j : Nat} (hne : Nat.beq j i = false) (h : Pst C Q (.exit j) tm l) : Pst C (Exit.inBlock i Q) (.exit j) tm l := fun q a w hA hS => by
  show (if j = i then _ else _); rw [if_neg (Nat.ne_of_beq_eq_false hne)]; exact h q.unblock a w hA hS

/-- A loop: what holds at the head of every round, by x. -/
def Again (C : Cx) {ι : Type} (J : ι → Tm) (S : ι → List HP) (ok : ι → Prop) : Act → World → Prop := fun a w => ∃ y, ok y ∧ Agree C.n (J y) a ∧ Sat C.W C.p (S y) w
theorem WPc.loop {c : Code} {ι : Type} (J : ι → Tm) (S : ι → List HP) (I : ι → Prop) (μ : ι → Nat) (x : ι) (hx : I x) (h0 : Sub (J x) tm) (hs : ∀ w, Sat C.W C.p l w → Sat C.W C.p (S x) w)
    (round : ∀ x, I x → WPc C c (Exit.then (Again C J S fun y => I y ∧ μ y < μ x) Q) (J x) (S x)) : WPc C (.loop c) Q tm l := fun q a w hA hS => by
  have key : ∀ (n : Nat) (x : ι) (a : Act) (w : World), μ x = n → I x → Agree C.n (J x) a → Sat C.W C.p (S x) w → (Code.loop c).wp C.P Q a w := by
    intro n x _ w hn hI hA hS
    refine wp_loop_ghost (fun m a w => ∃ y, μ y = m ∧ I y ∧ Agree C.n (J y) a ∧ Sat C.W C.p (S y) w) n ⟨x, hn, hI, hA, hS⟩ ?_
    rintro m a w ⟨y, rfl, hI, hA, hS⟩
    refine wp_mono (round y hI q.then a w hA hS) ?_
    intro e a w hq
    cases e <;> first | exact hq | (obtain ⟨z, ⟨hz, hlt⟩, h1, h2⟩ := hq; exact ⟨μ z, hlt, z, rfl, hz, h1, h2⟩)
  exact key _ x a w rfl hx (hA.sub h0) (hs w hS)
theorem Pst.again {ι : Type} {J : ι → Tm} {S : ι → List HP} {ok : ι → Prop} (y : ι) (h : ok y) (ht : Sub (J y) tm) (hs : ∀ w, Sat C.W C.p l w → Sat C.W C.p (S y) w) :
    Pst C (Exit.then (Again C J S ok) Q) .normal tm l := fun _ a w hA hS => ⟨y, h, hA.sub ht, hs w hS⟩
/-- Where ways meet. -/
theorem WPc.cut {x y : Code} {ι : Type} (J : ι → Tm) (S : ι → List HP) (I : ι → Prop) (h : WPc C x (Exit.then (Again C J S I) Q) tm l) (k : ∀ i, I i → WPc C y Q (J i) (S i)) : WPc C (x.seq y) Q tm l :=
  fun q a w hA hS => wp_seq (wp_mono (h q.then a w hA hS) fun e a w hq => by
    cases e <;> first | exact hq | (obtain ⟨i, hi, h1, h2⟩ := hq; exact k i hi q a w h1 h2))
end
end Go.Proofs.YtnfcbpgckomdfaaDoor
