/- Rules for operations, for regions that draw their order, for calls. For all of this seat's walks. -/
import Derived.Test.YtnfcbpgckomdfaaDoorRun
namespace Go.Proofs.YtnfcbpgckomdfaaDoor

/-! ## runs of operations without memory -/
/-- Is the operation carried out? none: that is not known. -/
def guardE (ds : List (Option Tmp)) (tm : Tm) (g : Option (Nat × Bool)) : Option Bool := match g with
  | none => some true
  | some (j, want) => match ds[j]? with
    | some (some d) => match tm.get d with
      | some .t => some want
      | some .f => some (!want)
      | some (.v (.tuple _)) => some false
      | _ => none
    | _ => none
def dsts (ops : Array Oper) : List (Option Tmp) := ops.toList.map (·.dst)
theorem guardE_ok {n : Nat} {tm : Tm} {a : Act} (hA : Agree n tm a) {ops : Array Oper} {o : Oper} {b : Bool} (h : guardE (dsts ops) tm o.guard = some b) : Region.wanted o (yielded ops a.tmps) = b := by
  unfold guardE at h
  unfold Region.wanted
  split at h
  · rename_i hg; rw [hg]; simpa using h
  · rename_i j want hg
    rw [hg]
    split at h <;> try (cases h; done)
    rename_i d hd
    have hd' : (ops[j]?).bind (·.dst) = some d := by
      simp only [dsts, List.getElem?_map, Array.getElem?_toList] at hd
      cases ho : ops[j]? with
      | none => rw [ho] at hd; simp at hd
      | some o' => rw [ho] at hd; simpa using hd
    split at h <;> try (cases h; done)
    · rename_i hx
      have := hA.get d _ hx
      simp only [yielded, hd', Option.bind_some, this, Ent.val]
      have h' := Option.some.inj h; subst h'; cases want <;> rfl
    · rename_i hx
      have := hA.get d _ hx
      simp only [yielded, hd', Option.bind_some, this, Ent.val]
      have h' := Option.some.inj h; subst h'; cases want <;> rfl
    · rename_i hx
      have := hA.get d _ hx
      simp only [yielded, hd', Option.bind_some, this, Ent.val]
      have h' := Option.some.inj h; subst h'; cases want <;> rfl
/-- What a run leaves. (Two forms, so that nothing is taken for a pair that has not been reckoned.) -/
inductive RunO where
  | mk (os : List Oper) (tm : Tm)
  | bad
def runP (T : Ty) (n : Nat) (ds : List (Option Tmp)) : List Oper → Tm → RunO
  | [], tm => .mk [] tm
  | o :: os, tm => match o.dst with
    | none => .mk (o :: os) tm
    | some d => match Nat.blt d n with
      | false => .mk (o :: os) tm
      | true => match guardE ds tm o.guard with
        | none => .mk (o :: os) tm
        | some false => runP T n ds os ((d, .v undef) :: tm)
        | some true => match pevT T tm o.op with
          | none => .mk (o :: os) tm
          | some v => runP T n ds os ((d, v) :: tm)

section
variable {C : Cx} {Q : Exit → Act → World → Prop} {tm : Tm} {l : List HP} {ops : Array Oper}
theorem WPl.nil (h : Pst C Q .normal tm l) : WPl C ops Q [] tm l := fun q a w hA hS => wpList_nil (h q a w hA hS)
theorem WPl.run : ∀ {os rest : List Oper} {tm tm' : Tm}, runP C.T C.n (dsts ops) os tm = .mk rest tm' → WPl C ops Q rest tm' l → WPl C ops Q os tm l
  | [], rest, tm, tm', h, k => by simp [runP] at h; obtain ⟨rfl, rfl⟩ := h; exact k
  | o :: os, rest, tm, tm', h, k => by
    simp only [runP] at h
    split at h
    · simp at h; obtain ⟨rfl, rfl⟩ := h; exact k
    rename_i d hdst
    split at h
    · simp at h; obtain ⟨rfl, rfl⟩ := h; exact k
    · rename_i hlt
      have hd : dstOk C.n o.dst = true := by rw [hdst]; exact hlt
      have hp : ∀ v, tm.put o.dst v = (d, .v v) :: tm := fun v => by rw [hdst]; rfl
      have hc : ∀ {a : Act} (_ : Agree C.n tm a) (e : Ent), Agree C.n ((d, e) :: tm) (a.put o.dst e.val) := fun hA e => by rw [hdst]; exact hA.cons (by simpa [Nat.blt_eq] using hlt) e
      split at h
      · simp at h; obtain ⟨rfl, rfl⟩ := h; exact k
      · rename_i hg
        intro q a w hA hS
        have ih := WPl.run h k q _ _ (hp undef ▸ hA.put hd undef) hS
        show wpList _ _ _ _ _ _
        unfold wpList
        rw [guardE_ok hA hg]; exact ih
      · rename_i hg
        split at h
        · simp at h; obtain ⟨rfl, rfl⟩ := h; exact k
        · rename_i v hv
          intro q a w hA hS
          have ih := WPl.run h k q _ _ (hc hA v) hS
          show wpList _ _ _ _ _ _
          unfold wpList
          rw [guardE_ok hA hg]
          refine .inl ?_
          unfold Oper.wp; rw [pevT_ok C.ok hA hv w]; exact ih

/-! ## one operation -/
def OpW (C : Cx) (o : Oper) (tm : Tm) (l : List HP) (J : Tm → List HP → Prop) : Prop :=
  ∀ (K : Act → World → Prop) (Q : Exit → Act → World → Prop), (∀ tm' l', J tm' l' → At C tm' l' K) → At C tm l fun a w => o.wp C.P a w K Q
theorem WPl.op {o : Oper} {os : List Oper} (hg : guardE (dsts ops) tm o.guard = some true) (h : OpW C o tm l fun tm' l' => WPl C ops Q os tm' l') : WPl C ops Q (o :: os) tm l := fun q a w hA hS => by
  show wpList _ _ _ _ _ _
  unfold wpList
  rw [guardE_ok hA hg]
  exact .inl (h _ _ (fun tm' l' j => j q) a w hA hS)
/-- A guard that is not decided. -/
theorem WPl.part {o : Oper} {os : List Oper} {d : Tmp} {b : Bool} (hb : tm.get d = some (.v (.bool b))) (t : b = true → WPl C ops Q (o :: os) ((d, .t) :: tm) l) (f : b = false → WPl C ops Q (o :: os) ((d, .f) :: tm) l) : WPl C ops Q (o :: os) tm l := fun q a w hA hS => by
  cases b with
  | true => exact t rfl q a w (hA.more (e := .t) (show a.tmps[d]? = some (Value.bool true) from hA.get d _ hb)) hS
  | false => exact f rfl q a w (hA.more (e := .f) (show a.tmps[d]? = some (Value.bool false) from hA.get d _ hb)) hS
/-- An operation that yields a value and leaves the world alone. -/
theorem OpW.yields {o : Oper} {J : Tm → List HP → Prop} (v : Value) (hd : dstOk C.n o.dst = true) (h : At C tm l fun a w => (execOp a.eval o).run C.P w = .ok (.value v) w) (k : J (tm.put o.dst v) l) : OpW C o tm l J :=
  fun K Q hK a w hA hS => by show o.wp C.P a w K Q; unfold Oper.wp; rw [h a w hA hS]; exact hK _ _ k _ _ (hA.put hd v) hS
theorem OpW.pure {o : Oper} {J : Tm → List HP → Prop} {e : Ent} (h : pevT C.T tm o.op = some e) (hd : dstOk C.n o.dst = true) (k : J (tm.put o.dst e.val) l) : OpW C o tm l J :=
  OpW.yields e.val hd (fun _ w hA _ => pevT_ok C.ok hA h w) k

/-! ## a region that draws its order -/
def listedOf (n : Nat) (L : List Nat) : Array Bool := ((List.range n).map fun i => L.contains i).toArray
theorem listedOf_nil (n : Nat) : listedOf n [] = Array.replicate n false := by
  apply Array.ext
  · simp [listedOf]
  · intro i h1 h2; simp [listedOf]
theorem listedOf_set {n : Nat} {L : List Nat} {i : Nat} : (listedOf n L).setIfInBounds i true = listedOf n (i :: L) := by
  apply Array.ext
  · simp [listedOf]
  · intro j h1 h2
    simp only [listedOf, List.size_toArray, List.length_map, List.length_range, Array.size_setIfInBounds] at h1 h2
    by_cases hij : i = j
    · subst hij; simp [listedOf]
    · have : ¬ j = i := fun e => hij e.symm
      simp [listedOf, hij, this]
/-- What is left of a region that draws its order, where L has come up. -/
def WPd (C : Cx) (ops : Array Oper) (Q : Exit → Act → World → Prop) (S : World → Prop) (L : List Nat) (tm : Tm) (l : List HP) : Prop :=
  (∀ w, Sat C.W C.p l w → S w) → QOk Q → ∀ k, ops.size ≤ k + L.length → At C tm l (wpAnyH C.P .any ops Q S k (listedOf ops.size L))
def noS : World → Prop := fun _ => True
theorem wpAnyH_none {P : Program} {md : Region.Mode} {ops : Array Oper} {Q : Exit → Act → World → Prop} {S : World → Prop} : ∀ (k : Nat) (L : Array Bool) (a : Act) (w : World), wpAnyH P md ops Q S k L a w → wpAnyH P md ops Q noS k L a w
  | 0, _, _, _, h => h
  | k + 1, _, _, _, h => ⟨h.1, fun i hi => wpOp_mono (fun a' w' h' => ⟨trivial, wpAnyH_none k _ a' w' h'.2⟩) (h.2 i hi)⟩
/-- From here on S is held: what is read may be read at once. -/
theorem WPd.hold {L : List Nat} (S : World → Prop) (hS : ∀ w, Sat C.W C.p l w → S w) (h : WPd C ops Q S L tm l) : WPd C ops Q noS L tm l := fun _ q k hk a w hA hs => wpAnyH_none k _ a w (h hS q k hk a w hA hs)
theorem WPc.draws {i : Nat} {os : List Oper} (h : WPd C os.toArray Q noS [] tm l) : WPc C (.region i os.toArray true) Q tm l := fun q a w hA hS => by
  refine wp_region_held (S := noS) C.mixed ?_
  have := h (fun _ _ => trivial) q os.toArray.size (by simp) a _ hA hS.drew
  rwa [listedOf_nil] at this
theorem WPd.done {S : World → Prop} {L : List Nat} (hr : Region.ready .any ops (listedOf ops.size L) = []) (h : Pst C Q .normal tm l) : WPd C ops Q S L tm l := fun _ q k _ a w hA hS => wpAnyH_done hr (h q a w hA hS) k
/-- May these operations be taken first, in this order? -/
def mayFirst (ops : Array Oper) : List Nat → List Nat → Bool
  | _, [] => true
  | L, i :: is => Nat.blt L.length ops.size && Region.free .any ops (listedOf ops.size L) i && (Region.ready .any ops (listedOf ops.size L)).contains i && mayFirst ops (i :: L) is
/-- What may be run of a region at once: which operations (the last one first), and the slots behind them. -/
inductive RunL where
  | mk (L : List Nat) (tm : Tm)
  | bad
def runI (T : Ty) (n : Nat) (ds : List (Option Tmp)) : Nat → List Oper → List Nat → Tm → RunL
  | _, [], L, tm => .mk L tm
  | i, o :: os, L, tm => match L.contains i with
    | true => runI T n ds (i + 1) os L tm
    | false => match o.after.toList.all (fun e => !Region.binds .any e || L.contains e.on) with
      | false => runI T n ds (i + 1) os L tm
      | true => match o.dst with
        | none => runI T n ds (i + 1) os L tm
        | some d => match Nat.blt d n with
          | false => runI T n ds (i + 1) os L tm
          | true => match guardE ds tm o.guard with
            | none => runI T n ds (i + 1) os L tm
            | some false => runI T n ds (i + 1) os (i :: L) ((d, .v undef) :: tm)
            | some true => match pevT T tm o.op with
              | none => runI T n ds (i + 1) os L tm
              | some v => runI T n ds (i + 1) os (i :: L) ((d, v) :: tm)
/-- May the operations by which L' is longer than L be taken first, one behind the other? -/
def mayTake (ops : Array Oper) (L : List Nat) : List Nat → Bool
  | [] => L.isEmpty
  | i :: is => (i :: is == L) || (mayTake ops L is && mayFirst ops is [i])
theorem mayFirst_one {L : List Nat} {i : Nat} (h : mayFirst ops L [i] = true) : L.length < ops.size ∧ Region.free .any ops (listedOf ops.size L) i = true ∧ (Region.ready .any ops (listedOf ops.size L)).contains i = true := by
  simp only [mayFirst, Bool.and_eq_true] at h
  obtain ⟨⟨⟨hlt, hfree⟩, hready⟩, _⟩ := h
  exact ⟨by simpa [Nat.blt_eq] using hlt, hfree, hready⟩
theorem mayTake_suffix : ∀ {L' L : List Nat}, mayTake ops L L' = true → ∃ p, L' = p ++ L
  | [], L, h => by simp [mayTake] at h; exact ⟨[], by simp [h]⟩
  | i :: is, L, h => by
    simp only [mayTake, Bool.or_eq_true, Bool.and_eq_true] at h
    rcases h with h | ⟨h, _⟩
    · exact ⟨[], by simpa using h⟩
    · obtain ⟨p, rfl⟩ := mayTake_suffix h; exact ⟨i :: p, rfl⟩
theorem mayTake_long {L' L : List Nat} (h : mayTake ops L L' = true) : L.length ≤ L'.length := by
  obtain ⟨p, rfl⟩ := mayTake_suffix h; simp
theorem mayTake_step {L' L : List Nat} {i : Nat} (h : mayTake ops L L' = true) (hs : ∃ p, L' = p ++ i :: L) : mayTake ops (i :: L) L' = true ∧ mayFirst ops L [i] = true := by
  induction L' with
  | nil => obtain ⟨p, hp⟩ := hs; simp at hp
  | cons k ks ih =>
    simp only [mayTake, Bool.or_eq_true, Bool.and_eq_true] at h
    obtain ⟨p, hp⟩ := hs
    rcases h with h | ⟨h1, h2⟩
    · have h := eq_of_beq h
      rw [h] at hp
      have := congrArg List.length hp
      simp at this; omega
    · cases p with
      | nil =>
        simp at hp; obtain ⟨rfl, rfl⟩ := hp
        exact ⟨by simp [mayTake], h2⟩
      | cons x p =>
        simp at hp; obtain ⟨rfl, hp⟩ := hp
        obtain ⟨h3, h4⟩ := ih h1 ⟨p, hp⟩
        exact ⟨by simp only [mayTake, h3, h2]; simp, h4⟩
theorem runI_suffix {T : Ty} {n : Nat} {ds : List (Option Tmp)} : ∀ (os : List Oper) (i : Nat) (L : List Nat) (tm : Tm), ∃ p tm', runI T n ds i os L tm = .mk (p ++ L) tm'
  | [], i, L, tm => ⟨[], tm, rfl⟩
  | o :: os, i, L, tm => by
    simp only [runI]
    split
    · exact runI_suffix os _ _ _
    split
    · exact runI_suffix os _ _ _
    split
    · exact runI_suffix os _ _ _
    split
    · exact runI_suffix os _ _ _
    split
    · exact runI_suffix os _ _ _
    · obtain ⟨p, tm', h⟩ := runI_suffix (T := T) (n := n) (ds := ds) os (i + 1) (i :: L) (_ :: tm); exact ⟨p ++ [i], tm', by rw [h]; simp⟩
    · split
      · exact runI_suffix os _ _ _
      · obtain ⟨p, tm', h⟩ := runI_suffix (T := T) (n := n) (ds := ds) os (i + 1) (i :: L) (_ :: tm); exact ⟨p ++ [i], tm', by rw [h]; simp⟩
theorem WPd.run {S : World → Prop} (hs : Region.noSelect ops = true) {L' : List Nat} {tm' : Tm} : ∀ {os : List Oper} {i : Nat} {L : List Nat} {tm : Tm}, (∀ j, os[j]? = ops[i + j]?) → runI C.T C.n (dsts ops) i os L tm = .mk L' tm' → mayTake ops L L' = true → WPd C ops Q S L' tm' l → WPd C ops Q S L tm l
  | [], i, L, tm, _, h, _, k => by simp [runI] at h; obtain ⟨rfl, rfl⟩ := h; exact k
  | o :: os, i, L, tm, ho, h, hm, k => by
    have ho0 : ops[i]? = some o := by simpa using (ho 0).symm
    have hos : ∀ j, os[j]? = ops[i + 1 + j]? := fun j => by have := ho (j + 1); simpa [Nat.add_assoc, Nat.add_comm 1 j] using this
    simp only [runI] at h
    split at h
    · exact WPd.run hs hos h hm k
    split at h
    · exact WPd.run hs hos h hm k
    split at h
    · exact WPd.run hs hos h hm k
    rename_i d hdst
    split at h
    · exact WPd.run hs hos h hm k
    rename_i hlt
    have hd : dstOk C.n o.dst = true := by rw [hdst]; exact hlt
    have hp : ∀ v, tm.put o.dst v = (d, .v v) :: tm := fun v => by rw [hdst]; rfl
    have hc : ∀ {a : Act} (_ : Agree C.n tm a) (e : Ent), Agree C.n ((d, e) :: tm) (a.put o.dst e.val) := fun hA e => by rw [hdst]; exact hA.cons (by simpa [Nat.blt_eq] using hlt) e
    split at h
    · exact WPd.run hs hos h hm k
    · rename_i hg
      have hsuf : ∃ p, L' = p ++ i :: L := by obtain ⟨p, tm1, hp⟩ := runI_suffix (T := C.T) (n := C.n) (ds := dsts ops) os (i + 1) (i :: L) ((d, .v undef) :: tm); rw [h] at hp; simp at hp; exact ⟨p, hp.1⟩
      obtain ⟨h3, h4⟩ := mayTake_step hm hsuf
      obtain ⟨h5, hfree, hready⟩ := mayFirst_one h4
      have ih := WPd.run hs hos h h3 k
      intro hT q fuel hf a w hA hS
      obtain ⟨m, rfl⟩ : ∃ m, fuel = m + 1 := ⟨fuel - 1, by omega⟩
      refine wpAnyH_take (v := undef) ho0 hs hfree hready (fun c a w hq => absurd hq (q c _ w)) (.inr ⟨guardE_ok hA hg, rfl⟩) (hT w hS) ?_
      rw [listedOf_set]
      exact ih hT q m (by simp; omega) _ _ (hp undef ▸ hA.put hd undef) hS
    · rename_i hg
      split at h
      · exact WPd.run hs hos h hm k
      rename_i v hv
      have hsuf : ∃ p, L' = p ++ i :: L := by obtain ⟨p, tm1, hp⟩ := runI_suffix (T := C.T) (n := C.n) (ds := dsts ops) os (i + 1) (i :: L) ((d, v) :: tm); rw [h] at hp; simp at hp; exact ⟨p, hp.1⟩
      obtain ⟨h3, h4⟩ := mayTake_step hm hsuf
      obtain ⟨h5, hfree, hready⟩ := mayFirst_one h4
      have ih := WPd.run hs hos h h3 k
      intro hT q fuel hf a w hA hS
      obtain ⟨m, rfl⟩ : ∃ m, fuel = m + 1 := ⟨fuel - 1, by omega⟩
      refine wpAnyH_take (v := v.val) ho0 hs hfree hready (fun c a w hq => absurd hq (q c _ w)) (.inl ⟨guardE_ok hA hg, fun w _ => pevT_ok C.ok hA hv w⟩) (hT w hS) ?_
      rw [listedOf_set]
      exact ih hT q m (by simp; omega) _ _ (hc hA v) hS
/-- An operation that yields its value in every world, taken first. -/
theorem WPd.take {S : World → Prop} {L : List Nat} (i : Nat) {o : Oper} (v : Value) (ho : ops[i]? = some o) (hs : Region.noSelect ops = true) (hm : mayFirst ops L [i] = true) (hg : guardE (dsts ops) tm o.guard = some true) (hd : dstOk C.n o.dst = true)
    (h : ∀ a, Agree C.n tm a → ∀ w, S w → (execOp a.eval o).run C.P w = .ok (.value v) w) (k : WPd C ops Q S (i :: L) (tm.put o.dst v) l) : WPd C ops Q S L tm l := fun hT q fuel hf a w hA hS => by
  simp only [mayFirst, Bool.and_eq_true] at hm
  obtain ⟨⟨⟨hlt, hfree⟩, hready⟩, _⟩ := hm
  have hlt : L.length < ops.size := by simpa [Nat.blt_eq] using hlt
  obtain ⟨m, rfl⟩ : ∃ m, fuel = m + 1 := ⟨fuel - 1, by omega⟩
  refine wpAnyH_take (v := v) ho hs hfree hready (fun c a w hq => absurd hq (q c _ w)) (.inl ⟨guardE_ok hA hg, fun w hs => h a hA w hs⟩) (hT w hS) ?_
  rw [listedOf_set]
  exact k hT q m (by simp; omega) _ _ (hA.put hd v) hS
/-- Whichever comes up next. -/
theorem WPd.each {S : World → Prop} {L rs : List Nat} (hr : Region.ready .any ops (listedOf ops.size L) = rs) (hne : rs ≠ []) (hlt : Nat.blt L.length ops.size = true)
    (h : ∀ i ∈ rs, ∃ o, ops[i]? = some o ∧ guardE (dsts ops) tm o.guard = some true ∧ OpW C o tm l fun tm' l' => (∀ w, Sat C.W C.p l' w → S w) ∧ WPd C ops Q S (i :: L) tm' l') : WPd C ops Q S L tm l := fun _ q fuel hf a w hA hS => by
  have hlt : L.length < ops.size := by simpa [Nat.blt_eq] using hlt
  obtain ⟨m, rfl⟩ : ∃ m, fuel = m + 1 := ⟨fuel - 1, by omega⟩
  refine wpAnyH_all hr hne fun i hi => ?_
  obtain ⟨o, ho, hg, hw⟩ := h i hi
  unfold wpOp
  simp only [ho, guardE_ok hA hg, if_true]
  refine .inl (hw _ _ (fun tm' l' j a w hA hS => ⟨j.1 w hS, ?_⟩) a w hA hS)
  rw [listedOf_set]
  exact j.2 j.1 q m (by simp; omega) a w hA hS
/-- The one that may come up. -/
theorem WPd.one {S : World → Prop} {L : List Nat} (i : Nat) {o : Oper} (ho : ops[i]? = some o) (hr : Region.ready .any ops (listedOf ops.size L) = [i]) (hlt : Nat.blt L.length ops.size = true) (hg : guardE (dsts ops) tm o.guard = some true)
    (h : OpW C o tm l fun tm' l' => (∀ w, Sat C.W C.p l' w → S w) ∧ WPd C ops Q S (i :: L) tm' l') : WPd C ops Q S L tm l :=
  WPd.each hr (by simp) hlt fun j hj => by simp at hj; subst hj; exact ⟨o, ho, hg, h⟩
end

/-! ## a call -/
/-- Called so, with these parts of memory in its hands, and where the rest of memory is as told: it returns, and holds what is told of the value that it returns. -/
def Spec (P : Program) (f : FuncId) (args : Array Value) (Facts : World → Hl → Prop) (pre : List HP) (R : Value → List HP → Prop) : Prop :=
  ∀ W p, sepL pre p → p.le W → Facts W p → Calls P f args W fun e w' => ∃ v L, e = .returned v ∧ R v L ∧ Sat W p L w'
def noFacts : World → Hl → Prop := fun _ _ => True
def picks : List Nat → List HP → List HP
  | [], _ => []
  | i :: is, l => match l[i]? with
    | some A => A :: picks is l
    | none => []
/-- A state after a call: the frame is kept. -/
theorem Sat.frame {W w w' : World} {p q r : Hl} {fr L : List HP} (d : q.dis r) (hf : sepL fr r) (hle : Hl.le (q.un r) w) (u : Upd W p (q.un r) w) (s : Sat w q L w') : Sat W p (L ++ fr) w' := by
  obtain ⟨h, a, b, v⟩ := s
  have hr := Hl.le_right d hle
  have dis : h.dis r := fun k => by
    cases hk : h k with
    | none => exact .inl rfl
    | some o =>
      right
      cases hrk : r k with
      | none => rfl
      | some o' =>
        rcases v.dom k (by rw [hk]; simp) with h1 | h1
        · rcases d k with h2 | h2
          · exact absurd h2 h1
          · rw [h2] at hrk; cases hrk
        · have := (Array.getElem?_eq_some_iff.1 (hr k o' hrk)).1; omega
  refine ⟨h.un r, sepL_join dis a hf, Hl.le_un b (fun k o e => ?_), ⟨v.os.trans u.os, v.tape.trans u.tape, v.output.trans u.output, Nat.le_trans u.size v.size, fun k hk hp => ?_, fun k e => ?_⟩⟩
  · have h1 := hr k o e
    rw [v.old k (Array.getElem?_eq_some_iff.1 h1).1 (by rcases d k with h | h; · exact h
                                                        · rw [h] at e; cases e)]
    exact h1
  · have hqr : (q.un r) k = none := by
      cases hx : (q.un r) k with
      | none => rfl
      | some o => rcases u.dom k (by rw [hx]; simp) with h | h
                  · exact absurd hp h
                  · omega
    have hq : q k = none := by
      unfold Hl.un at hqr; cases hx : q k with
      | none => rfl
      | some o => rw [hx] at hqr; cases hqr
    rw [v.old k (Nat.lt_of_lt_of_le hk u.size) hq]; exact u.old k hk hp
  · by_cases hx : r k = none
    · have : h k ≠ none := fun hh => e (by unfold Hl.un; rw [hh]; exact hx)
      rcases v.dom k this with h1 | h1
      · exact u.dom k (fun hh => h1 (by unfold Hl.un at hh; cases hq : q k with
                                       | none => rfl
                                       | some o => rw [hq] at hh; cases hh))
      · right; exact Nat.le_trans u.size h1
    · refine u.dom k (fun hh => hx ?_)
      unfold Hl.un at hh; cases hq : q k with
      | none => rw [hq] at hh; exact hh
      | some o => rw [hq] at hh; cases hh
section
variable {C : Cx} {Q : Exit → Act → World → Prop} {tm : Tm} {l : List HP}
def opds (tm : Tm) : List Operand → Option (List Value)
  | [] => some []
  | x :: xs => match opd tm x with
    | some v => match opds tm xs with
      | some vs => some (v.val :: vs)
      | none => none
    | none => none
theorem opds_ok {n : Nat} {a : Act} (hA : Agree n tm a) : ∀ {xs : List Operand} {vs : List Value}, opds tm xs = some vs → xs.map a.eval = vs
  | [], vs, h => by simp [opds] at h; subst h; rfl
  | x :: xs, vs, h => by
    simp only [opds] at h
    split at h <;> try (cases h; done)
    rename_i v hv
    split at h <;> try (cases h; done)
    rename_i vs' hvs
    simp at h; subst h
    simp [hA.eval hv, opds_ok hA hvs]
theorem run_call {P : Program} {f : FuncId} {fn : Func} (hf : P.funcs[f]? = some fn) (hn : (fn.name == "runtime.NumGoroutine") = false) (hb : fn.body.isSome = true) (args : Array Value) (w : World) :
    (callFunc f args).run P w = .ok (.enter f args) w := by
  have : fn.body.isNone = false := by cases h : fn.body <;> simp_all
  unfold callFunc
  simp only [program, Sem.run, Sem.run_bind, Result.andThen_ok, hf, hn, this]
  rfl
/-- The program has such a function, and it has a body. -/
def CallOk (P : Program) (f : FuncId) : Prop := ∃ fn : Func, P.funcs[f]? = some fn ∧ (fn.name == "runtime.NumGoroutine") = false ∧ fn.body.isSome = true
/-- A call of a function that is named. -/
theorem OpW.call {o : Oper} {J : Tm → List HP → Prop} {f : FuncId} {xs : List Operand} {ats : Array TypeId} {vs : List Value} {Facts : World → Hl → Prop} {pre fr : List HP} {R : Value → List HP → Prop}
    (S : Spec C.P f vs.toArray Facts pre R) (hc : CallOk C.P f) (ho : o.op = .call { callee := .value (.func f), args := xs.toArray, argTypes := ats }) (hd : dstOk C.n o.dst = true) (ha : opds tm xs = some vs) (hp : l.Perm (pre ++ fr))
    (hF : ∀ (w : World) (q r : Hl), sepL fr r → q.dis r → Hl.le (q.un r) w → Upd C.W C.p (q.un r) w → Facts w q)
    (k : ∀ v L, R v L → J (tm.put o.dst v) (L ++ fr)) : OpW C o tm l J := fun K Q hK a w hA hS => by
  obtain ⟨fn, hf, hn, hb⟩ := hc
  obtain ⟨h, s, hle, u⟩ := hS.perm hp
  obtain ⟨q, r, d, rfl, s1, s2⟩ := sepL_append _ s
  have hc := S w q s1 (Hl.le_left hle) (hF w q r s2 d hle u)
  show o.wp C.P a w K Q
  unfold Oper.wp execOp
  simp only [ho, resolve, Deferred.ofValue, invoke, Sem.run_bind, Sem.run_pure, Result.andThen_ok, List.map_toArray, opds_ok hA ha, Act.eval]
  rw [show (#[] ++ vs.toArray ++ #[] : Array Value) = vs.toArray from by simp, run_call hf hn hb]
  show Calls _ _ _ _ _
  refine hc.mono ?_
  rintro e w' ⟨v, L, rfl, hR, hs⟩
  exact hK _ _ (k v L hR) _ _ (hA.put hd v) (Sat.frame d s2 hle u hs)

/-- A call that is handed no memory. -/
theorem OpW.call0 {o : Oper} {J : Tm → List HP → Prop} {f : FuncId} {xs : List Operand} {ats : Array TypeId} {vs : List Value} {R : Value → List HP → Prop}
    (S : Spec C.P f vs.toArray noFacts [] R) (hc : CallOk C.P f) (ho : o.op = .call { callee := .value (.func f), args := xs.toArray, argTypes := ats }) (hd : dstOk C.n o.dst = true) (ha : opds tm xs = some vs)
    (k : ∀ v L, R v L → J (tm.put o.dst v) (L ++ l)) : OpW C o tm l J := OpW.call S hc ho hd ha (List.Perm.refl _) (fun _ _ _ _ _ _ _ => trivial) k
/-- A call that is handed part i of memory. -/
theorem OpW.call1 (i : Nat) {o : Oper} {J : Tm → List HP → Prop} {f : FuncId} {xs : List Operand} {ats : Array TypeId} {vs : List Value} {A : HP} {R : Value → List HP → Prop}
    (S : Spec C.P f vs.toArray noFacts [A] R) (hc : CallOk C.P f) (ho : o.op = .call { callee := .value (.func f), args := xs.toArray, argTypes := ats }) (hd : dstOk C.n o.dst = true) (ha : opds tm xs = some vs) (hi : l[i]? = some A)
    (k : ∀ v L, R v L → J (tm.put o.dst v) (L ++ l.eraseIdx i)) : OpW C o tm l J := OpW.call (fr := l.eraseIdx i) S hc ho hd ha (perm_front l i A hi) (fun _ _ _ _ _ _ _ => trivial) k

/-! ## the end of a call, and its beginning -/
def enumTm : Nat → List Value → Tm
  | _, [] => []
  | i, v :: vs => (i, .v v) :: enumTm (i + 1) vs
def BodyR (W : World) (p : Hl) (R : Value → List HP → Prop) : Ending → World → Prop := fun e w' => ∃ v L, e = .returned v ∧ R v L ∧ Sat W p L w'
theorem BodyR.qok {P : Program} {fn : Func} {W : World} {p : Hl} {R : Value → List HP → Prop} : QOk (bodyPost P fn (BodyR W p R)) := by
  rintro c a w ⟨_, v, L, h, _⟩; cases h
end
theorem Agree.enum {vs : List Value} {n : Nat} (hn : vs.length ≤ n) : Agree n (enumTm 0 vs) { tmps := vs.toArray ++ Array.replicate (n - vs.toArray.size) undef, defers := [] } := by
  refine ⟨rfl, by simp; omega, ?_⟩
  have key : ∀ (us : List Value) (i t : Nat) (v : Ent), (enumTm i us).get t = some v → i ≤ t ∧ us[t - i]? = some v.val := by
    intro us
    induction us with
    | nil => intro i t v h; simp [enumTm, Tm.get] at h
    | cons u us ih =>
      intro i t v h
      simp only [enumTm, Tm.get] at h
      cases hb : Nat.beq i t with
      | true => rw [hb] at h; have := Nat.eq_of_beq_eq_true hb; subst this; simp at h; subst h; simp [Ent.val]
      | false =>
        rw [hb] at h
        have hne := Nat.ne_of_beq_eq_false hb
        obtain ⟨h1, h2⟩ := ih (i + 1) t v h
        refine ⟨by omega, ?_⟩
        rw [show t - i = (t - (i + 1)) + 1 from by omega]; simpa using h2
  intro t v h
  obtain ⟨_, h2⟩ := key vs 0 t v h
  simp only [Nat.sub_zero] at h2
  have hlt := (List.getElem?_eq_some_iff.1 h2).1
  show (vs.toArray ++ _)[t]? = some v.val
  rw [Array.getElem?_append_left (by simpa using hlt)]
  simpa using h2
theorem Spec.of {P : Program} {T : Ty} {hT : TyOk P T} {hm : P.follows .mixedOrders = true} {f : FuncId} {fn : Func} {c : Code} {n : Nat} {vs : List Value} {Facts : World → Hl → Prop} {pre : List HP} {R : Value → List HP → Prop}
    (hf : P.funcs[f]? = some fn) (hb : fn.body = some c) (hn : fn.ntmps = n) (hl : Nat.ble vs.length n = true)
    (h : ∀ W p, Facts W p → WPc ⟨P, T, hT, hm, n, W, p⟩ c (bodyPost P fn (BodyR W p R)) (enumTm 0 vs) pre) : Spec P f vs.toArray Facts pre R := fun W p s hle hF => by
  refine calls_of_wp hf hb ?_
  rw [hn]
  exact h W p hF BodyR.qok _ W (Agree.enum (by simpa [Nat.ble_eq] using hl)) ⟨p, s, hle, Upd.refl W p⟩
def resOne (tmps : Array Value) : ResultVar → Sem Value
  | .tmp t => pure (tmps.getD t undef)
  | .cell a t => do loadVar t (← asAddr (tmps.getD a undef))
theorem results_eq (fn : Func) (tmps : Array Value) : results fn tmps = (do
    let vs ← fn.results.mapM (resOne tmps)
    pure (if h : vs.size = 1 then vs[0] else .tuple vs) : Sem Value) := by
  unfold results
  congr 1
theorem results_1 {P : Program} {fn : Func} {r : ResultVar} {v : Value} (h : fn.results = #[r]) {tmps : Array Value} {w : World} (h1 : (resOne tmps r).run P w = .ok v w) :
    (results fn tmps).run P w = .ok v w := by
  rw [results_eq, h]; simp [h1]
theorem results_2 {P : Program} {fn : Func} {r s : ResultVar} {v u : Value} (h : fn.results = #[r, s]) {tmps : Array Value} {w : World} (h1 : (resOne tmps r).run P w = .ok v w) (h2 : (resOne tmps s).run P w = .ok u w) :
    (results fn tmps).run P w = .ok (.tuple #[v, u]) w := by
  rw [results_eq, h]; simp [h1, h2]
theorem results_3 {P : Program} {fn : Func} {r s t : ResultVar} {v u x : Value} (h : fn.results = #[r, s, t]) {tmps : Array Value} {w : World} (h1 : (resOne tmps r).run P w = .ok v w) (h2 : (resOne tmps s).run P w = .ok u w) (h3 : (resOne tmps t).run P w = .ok x w) :
    (results fn tmps).run P w = .ok (.tuple #[v, u, x]) w := by
  rw [results_eq, h]; simp [h1, h2, h3]
theorem results_0 {P : Program} {fn : Func} (h : fn.results = #[]) {tmps : Array Value} {w : World} : (results fn tmps).run P w = .ok (.tuple #[]) w := by
  rw [results_eq, h]; simp
def Res (C : Cx) (tm : Tm) (l : List HP) (r : ResultVar) (v : Value) : Prop := At C tm l fun a w => (resOne a.tmps r).run C.P w = .ok v w
section
variable {C : Cx} {tm : Tm} {l : List HP} {fn : Func} {R : Value → List HP → Prop}
theorem Res.tmp {t : Tmp} {v : Value} (h : getV tm t = some v) : Res C tm l (.tmp t) v := fun a w hA _ => by
  have := getV_ok hA h
  simp [resOne, Array.getD_eq_getD_getElem?, this]
theorem Pst.retWith {v : Value} {L : List HP} (hr : At C tm l fun a w => (results fn a.tmps).run C.P w = .ok v w) (hR : R v L) (hs : ∀ w, Sat C.W C.p l w → Sat C.W C.p L w) :
    Pst C (bodyPost C.P fn (BodyR C.W C.p R)) .ret tm l := fun _ a w hA hS => ⟨hA.defers, v, hr a w hA hS, v, L, rfl, hR, hs w hS⟩
theorem Pst.endWith {v : Value} {L : List HP} (hr : At C tm l fun a w => (results fn a.tmps).run C.P w = .ok v w) (hR : R v L) (hs : ∀ w, Sat C.W C.p l w → Sat C.W C.p L w) :
    Pst C (bodyPost C.P fn (BodyR C.W C.p R)) .normal tm l := fun _ a w hA hS => ⟨hA.defers, v, hr a w hA hS, v, L, rfl, hR, hs w hS⟩
theorem Pst.ret1 {r : ResultVar} {v : Value} {L : List HP} (h : fn.results = #[r]) (h1 : Res C tm l r v) (hR : R v L) (hs : ∀ w, Sat C.W C.p l w → Sat C.W C.p L w) :
    Pst C (bodyPost C.P fn (BodyR C.W C.p R)) .ret tm l := Pst.retWith (fun a w hA hS => results_1 h (h1 a w hA hS)) hR hs
theorem Pst.ret2 {r s : ResultVar} {v u : Value} {L : List HP} (h : fn.results = #[r, s]) (h1 : Res C tm l r v) (h2 : Res C tm l s u) (hR : R (.tuple #[v, u]) L) (hs : ∀ w, Sat C.W C.p l w → Sat C.W C.p L w) :
    Pst C (bodyPost C.P fn (BodyR C.W C.p R)) .ret tm l := Pst.retWith (fun a w hA hS => results_2 h (h1 a w hA hS) (h2 a w hA hS)) hR hs
theorem Pst.ret3 {r s t : ResultVar} {v u x : Value} {L : List HP} (h : fn.results = #[r, s, t]) (h1 : Res C tm l r v) (h2 : Res C tm l s u) (h3 : Res C tm l t x) (hR : R (.tuple #[v, u, x]) L) (hs : ∀ w, Sat C.W C.p l w → Sat C.W C.p L w) :
    Pst C (bodyPost C.P fn (BodyR C.W C.p R)) .ret tm l := Pst.retWith (fun a w hA hS => results_3 h (h1 a w hA hS) (h2 a w hA hS) (h3 a w hA hS)) hR hs
theorem Pst.end0 {L : List HP} (h : fn.results = #[]) (hR : R (.tuple #[]) L) (hs : ∀ w, Sat C.W C.p l w → Sat C.W C.p L w) :
    Pst C (bodyPost C.P fn (BodyR C.W C.p R)) .normal tm l := Pst.endWith (fun _ _ _ _ => results_0 h) hR hs
theorem Pst.ret0 {L : List HP} (h : fn.results = #[]) (hR : R (.tuple #[]) L) (hs : ∀ w, Sat C.W C.p l w → Sat C.W C.p L w) :
    Pst C (bodyPost C.P fn (BodyR C.W C.p R)) .ret tm l := Pst.retWith (fun _ _ _ _ => results_0 h) hR hs
end
end Go.Proofs.YtnfcbpgckomdfaaDoor
