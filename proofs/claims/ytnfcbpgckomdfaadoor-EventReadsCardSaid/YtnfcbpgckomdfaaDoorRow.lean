/- Struct values, slices of the call's own, appends. For all of this seat's walks. -/
import Derived.Test.YtnfcbpgckomdfaaDoorMem
namespace Go.Proofs.YtnfcbpgckomdfaaDoor

/-! ## cells filled in -/
theorem foldl_set : ∀ (us l : List Value) (off k : Nat) (r : List Value), listSet l (off + k) us = some r →
    (us.zipIdx k).foldl (fun cs (x : Value × Nat) => cs.setIfInBounds (off + x.2) x.1) l.toArray = r.toArray
  | [], l, off, k, r, h => by
    have := (listSet_ok h).1
    simp at this; subst this; simp
  | u :: us, l, off, k, r, h => by
    obtain ⟨h1, h2⟩ := listSet_ok h
    simp only [List.zipIdx_cons, List.foldl_cons]
    have hlt : off + k < l.length := by simp at h2; omega
    have key : listSet (l.set (off + k) u) (off + (k + 1)) us = some r := by
      have hx : listSet (l.set (off + k) u) (off + (k + 1)) us = some ((l.set (off + k) u).take (off + (k + 1)) ++ us ++ (l.set (off + k) u).drop (off + (k + 1) + us.length)) := by
        have gen : ∀ (l : List Value) (i : Nat) (vs : List Value), i + vs.length ≤ l.length → listSet l i vs = some (l.take i ++ vs ++ l.drop (i + vs.length)) := by
          intro l
          induction l with
          | nil => intro i vs h; cases i <;> cases vs <;> simp at h <;> simp [listSet]
          | cons a l ih =>
            intro i vs h
            cases i with
            | zero =>
              cases vs with
              | nil => simp [listSet]
              | cons v vs => simp only [listSet, ih 0 vs (by simp at h ⊢; omega)]; simp
            | succ i => simp only [listSet, ih i vs (by simp at h ⊢; omega)]; simp [show i + 1 + vs.length = (i + vs.length) + 1 from by omega]
        exact gen _ _ _ (by simp at h2 ⊢; omega)
      rw [hx, h1]
      congr 1
      rw [List.take_set, List.drop_set]
      rw [if_pos (by omega)]
      rw [show off + (k + 1) = (off + k) + 1 from by omega, List.take_succ_eq_append_getElem hlt]
      rw [List.set_append, if_neg (by simp; omega)]
      simp [Nat.min_eq_left (Nat.le_of_lt hlt), show off + k + 1 + us.length = off + k + (us.length + 1) from by omega]
    have := foldl_set us (l.set (off + k) u) off (k + 1) r key
    simpa using this
/-- What 'fill' does, by parts. -/
def fillE (place : Nat → Option (Nat × Nat)) (tm : Tm) : List Value → List (Nat × Operand) → Option (List Value)
  | l, [] => some l
  | l, (i, x) :: ps => match place i with
    | none => none
    | some (off, size) => match opd tm x with
      | none => none
      | some e => match cellsE e with
        | none => none
        | some us => match Nat.beq us.length size with
          | false => none
          | true => match listSet l off us with
            | none => none
            | some r => fillE place tm r ps
theorem fillE_ok {n : Nat} {tm : Tm} {a : Act} (hA : Agree n tm a) {place : Nat → Option (Nat × Nat)} : ∀ {ps : List (Nat × Operand)} {l r : List Value}, fillE place tm l ps = some r → Instr.fill place l.toArray (ps.map fun (i, x) => (i, a.eval x)) = some r.toArray
  | [], l, r, h => by simp [fillE] at h; subst h; rfl
  | (i, x) :: ps, l, r, h => by
    simp only [fillE] at h
    split at h <;> try (cases h; done)
    rename_i off size hp
    split at h <;> try (cases h; done)
    rename_i e he
    split at h <;> try (cases h; done)
    rename_i us hus
    split at h <;> try (cases h; done)
    rename_i hz
    split at h <;> try (cases h; done)
    rename_i r' hr
    have ih := fillE_ok hA h
    have hus' := cellsL_ok (cellsE_eq hus)
    have hzz := Nat.eq_of_beq_eq_true hz
    obtain ⟨_, h2⟩ := listSet_ok hr
    have hsz : e.val.cells.size = size := by rw [← hzz, ← hus']; simp
    have h3 : ¬ (e.val.cells.size ≠ size ∨ off + e.val.cells.size > l.length) := by rw [hsz, ← hzz]; omega
    simp only [List.map_cons, Instr.fill, hp, hA.eval he]
    rw [if_neg (by simpa using h3)]
    have hf := foldl_set us l off 0 r' (by simpa using hr)
    have hz2 : e.val.cells.zipIdx = us.zipIdx.toArray := by
      have : e.val.cells = us.toArray := by rw [← hus']
      rw [this]; simp
    rw [hz2]
    have : us.zipIdx.toArray.foldl (fun cs (x : Value × Nat) => match x with | (c, j) => cs.setIfInBounds (off + j) c) l.toArray = r'.toArray := by
      rw [← hf, List.foldl_toArray']; simp
    rw [this]; exact ih
def placesE (T : Ty) : List Field → Option (List (Nat × Nat))
  | [] => some []
  | ⟨_, ty, off, _, _, _, _⟩ :: fs => match T.get ty with
    | some i => match placesE T fs with
      | some r => some ((off, i.size) :: r)
      | none => none
    | none => none
def nthP : List (Nat × Nat) → Nat → Option (Nat × Nat)
  | [], _ => none
  | x :: _, 0 => some x
  | _ :: l, n + 1 => nthP l n
theorem nthP_eq : ∀ (l : List (Nat × Nat)) (i : Nat), nthP l i = l[i]?
  | [], _ => by simp [nthP]
  | x :: _, 0 => rfl
  | _ :: l, i + 1 => by simpa [nthP] using nthP_eq l i
def fieldsOf : TypeDesc → Option (List Field)
  | .struct fs => some fs.toList
  | _ => none
/-- A struct value. -/
def buildE (T : Ty) (tm : Tm) (t : TypeId) (ps : List (Nat × Operand)) : Option (List Value) := match T.get t with
  | none => none
  | some i => match fieldsOf i.desc with
    | none => none
    | some fs => match placesE T fs with
      | none => none
      | some pl => match cellsL i.zero with
        | none => none
        | some z => fillE (nthP pl) tm z ps
theorem placesE_ok {P : Program} {T : Ty} (hT : TyOk P T) (w : World) : ∀ {fs : List Field} {pl : List (Nat × Nat)}, placesE T fs = some pl → (fs.mapM fun f => (do pure (f.offset, ← sizeOf f.type) : Sem (Nat × Nat))).run P w = .ok pl w
  | [], pl, h => by simp [placesE] at h; subst h; rfl
  | f :: fs, pl, h => by
    simp only [placesE] at h
    split at h <;> try (cases h; done)
    rename_i i hi
    split at h <;> try (cases h; done)
    rename_i r hr
    simp at h; subst h
    have ih := placesE_ok hT w hr
    simp only [List.mapM_cons, Sem.run_bind, hT.sizeOf hi w, Result.andThen_ok, Sem.run_pure, ih]
section
variable {C : Cx} {Q0 : Exit → Act → World → Prop} {K : List Fr} {tm : Tm} {l : List HP} {ops : Array Oper} {o : Oper} {os : List Oper} {d : Tmp}
theorem Yv.build {t : TypeId} {ps : List (Nat × Operand)} {r : List Value} (ho : o.op = .build t ps.toArray) (h : buildE C.T tm t ps = some r) : Yv C tm o (.agg r.toArray) := fun a hA w => by
  unfold buildE at h
  split at h <;> try (cases h; done)
  rename_i i hi
  split at h <;> try (cases h; done)
  rename_i fs hfs
  split at h <;> try (cases h; done)
  rename_i pl hpl
  split at h <;> try (cases h; done)
  rename_i z hz
  have hd : ∃ fa : Array Field, i.desc = .struct fa ∧ fa.toList = fs := by
    cases hdd : i.desc <;> simp [hdd, fieldsOf] at hfs
    exact ⟨_, rfl, hfs⟩
  obtain ⟨fa, hd, hfa⟩ := hd
  have hu := C.ok.under hi w
  rw [hd] at hu
  have hp := placesE_ok C.ok w hpl
  have hf := fillE_ok hA h
  have hzc : i.zero.cells = z.toArray := by rw [← cellsL_ok hz]
  have hm : (fa.mapM fun f => (do Pure.pure (f.offset, ← sizeOf f.type) : Sem (Nat × Nat))).run C.P w = .ok pl.toArray w := by
    rw [Array.mapM_eq_mapM_toList, hfa]
    rw [Sem.run_map, hp]; rfl
  have hg : (fun i => pl.toArray[i]?) = nthP pl := by funext i; rw [nthP_eq]; simp
  unfold execOp
  simp only [ho, Instr.build, Sem.run_bind, C.ok.zeroOf hi w, Result.andThen_ok, hu, hm, Sem.run_pure, hzc]
  have hl : (Array.map (fun x : Nat × Operand => match x with | (i, x) => (i, a.eval x)) ps.toArray).toList = ps.map fun (i, x) => (i, a.eval x) := by simp
  rw [hl]
  simp only [Sem.run_pure, Result.andThen_ok, hg, hf]
theorem Good.build {t : TypeId} {ps : List (Nat × Operand)} {r : List Value} (kk : Good C Q0 (.ops ops os) K ((d, .v (.agg r.toArray)) :: tm) l) (hg : guardE (dsts ops) tm o.guard = some true := by rfl) (hdst : o.dst = some d := by rfl) (hlt : Nat.blt d C.n = true := by rfl) (ho : o.op = .build t ps.toArray := by rfl) (h : buildE C.T tm t ps = some r := by rfl) : Good C Q0 (.ops ops (o :: os)) K tm l :=
  Good.val (Yv.build ho h) kk hg hdst hlt
end
end Go.Proofs.YtnfcbpgckomdfaaDoor
