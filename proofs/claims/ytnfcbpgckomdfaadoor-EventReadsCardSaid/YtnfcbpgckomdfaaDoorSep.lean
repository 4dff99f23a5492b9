/- Heaps in parts: which blocks a call holds, and what the rest of memory is. For all of this seat's walks. -/
import Derived.WalkKit
import Derived.KernelRfl
import Derived.OrdersHeld
import Derived.Deep.LoopGhost
namespace Go.Proofs.YtnfcbpgckomdfaaDoor

/-- Some blocks, each with what it holds. -/
abbrev Hl := Nat → Option Obj
def Hl.le (h : Hl) (w : World) : Prop := ∀ b o, h b = some o → w.heap[b]? = some o
def Hl.dis (h k : Hl) : Prop := ∀ b, h b = none ∨ k b = none
def Hl.un (h k : Hl) : Hl := fun b => match h b with | some o => some o | none => k b
def Hl.nil : Hl := fun _ => none
def Hl.one (g : Nat) (o : Obj) : Hl := fun b => if b = g then some o else none

theorem Hl.un_nil (h : Hl) : h.un Hl.nil = h := by funext b; unfold Hl.un Hl.nil; cases h b <;> rfl
theorem Hl.nil_un (h : Hl) : Hl.nil.un h = h := by funext b; rfl
theorem Hl.dis_symm {h k : Hl} (d : h.dis k) : k.dis h := fun b => (d b).symm
theorem Hl.un_comm {h k : Hl} (d : h.dis k) : h.un k = k.un h := by
  funext b; unfold Hl.un; rcases d b with e | e <;> rw [e] <;> cases h b <;> cases k b <;> simp_all
theorem Hl.un_assoc (h k m : Hl) : (h.un k).un m = h.un (k.un m) := by funext b; unfold Hl.un; cases h b <;> rfl
theorem Hl.dis_un {h k m : Hl} : (h.un k).dis m ↔ h.dis m ∧ k.dis m := by
  constructor
  · intro d
    refine ⟨fun b => ?_, fun b => ?_⟩
    · rcases d b with e | e
      · unfold Hl.un at e; cases hh : h b with
        | none => exact .inl rfl
        | some o => rw [hh] at e; simp at e
      · exact .inr e
    · rcases d b with e | e
      · unfold Hl.un at e; cases hh : h b with
        | none => rw [hh] at e; exact .inl e
        | some o => rw [hh] at e; simp at e
      · exact .inr e
  · rintro ⟨d1, d2⟩ b
    unfold Hl.un
    rcases d1 b with e | e
    · rw [e]; exact d2 b
    · exact .inr e
theorem Hl.dis_un' {h k m : Hl} : m.dis (h.un k) ↔ m.dis h ∧ m.dis k :=
  ⟨fun d => let ⟨a, b⟩ := Hl.dis_un.1 (Hl.dis_symm d); ⟨Hl.dis_symm a, Hl.dis_symm b⟩, fun ⟨a, b⟩ => Hl.dis_symm (Hl.dis_un.2 ⟨Hl.dis_symm a, Hl.dis_symm b⟩)⟩
theorem Hl.le_un {h k : Hl} {w : World} (a : h.le w) (b : k.le w) : (h.un k).le w := by
  intro g o e; unfold Hl.un at e
  cases hh : h g with
  | none => rw [hh] at e; exact b g o e
  | some o' => rw [hh] at e; exact a g o (by rw [hh]; exact e)
theorem Hl.le_left {h k : Hl} {w : World} (a : (h.un k).le w) : h.le w := fun g o e => a g o (by unfold Hl.un; rw [e])
theorem Hl.le_right {h k : Hl} {w : World} (d : h.dis k) (a : (h.un k).le w) : k.le w := by
  rw [Hl.un_comm d] at a; exact Hl.le_left a
theorem Hl.nil_le (w : World) : Hl.nil.le w := fun _ _ e => by simp [Hl.nil] at e

/-- What is said of some blocks. -/
abbrev HP := Hl → Prop
def HP.emp : HP := fun h => h = Hl.nil
def HP.star (A B : HP) : HP := fun h => ∃ h1 h2, h1.dis h2 ∧ h = h1.un h2 ∧ A h1 ∧ B h2
def HP.pure (p : Prop) : HP := fun h => p ∧ h = Hl.nil
def HP.ex {α : Type} (A : α → HP) : HP := fun h => ∃ x, A x h
/-- One block, and just what it holds. -/
def HP.blk (g : Nat) (o : Obj) : HP := fun h => h = Hl.one g o
/-- A row of cells. -/
abbrev HP.row (g : Nat) (cs : List Value) (e : TypeId) : HP := HP.blk g (.cells cs.toArray e (0, 0))
def sepL : List HP → HP
  | [] => HP.emp
  | A :: l => HP.star A (sepL l)

theorem HP.star_comm {A B : HP} {h : Hl} (s : HP.star A B h) : HP.star B A h :=
  let ⟨h1, h2, d, e, a, b⟩ := s; ⟨h2, h1, Hl.dis_symm d, by rw [e, Hl.un_comm d], b, a⟩
theorem HP.star_left_comm {A B C : HP} {h : Hl} (s : HP.star A (HP.star B C) h) : HP.star B (HP.star A C) h := by
  obtain ⟨h1, h2, d, rfl, a, h3, h4, d', rfl, b, c⟩ := s
  obtain ⟨d1, d2⟩ := Hl.dis_un'.1 d
  refine ⟨h3, h1.un h4, Hl.dis_un'.2 ⟨Hl.dis_symm d1, d'⟩, ?_, b, h1, h4, d2, rfl, a, c⟩
  rw [← Hl.un_assoc, Hl.un_comm d1, Hl.un_assoc]
theorem sepL_perm {l l' : List HP} (p : l.Perm l') : ∀ h, sepL l h → sepL l' h := by
  induction p with
  | nil => exact fun _ s => s
  | cons x _ ih => rintro h ⟨h1, h2, d, e, a, b⟩; exact ⟨h1, h2, d, e, a, ih _ b⟩
  | swap x y l => intro h s; exact HP.star_left_comm s
  | trans _ _ i1 i2 => exact fun h s => i2 h (i1 h s)
theorem sepL_append {l l' : List HP} : ∀ h, sepL (l ++ l') h → ∃ h1 h2, h1.dis h2 ∧ h = h1.un h2 ∧ sepL l h1 ∧ sepL l' h2 := by
  induction l with
  | nil => intro h s; exact ⟨Hl.nil, h, fun _ => .inl rfl, (Hl.nil_un h).symm, rfl, s⟩
  | cons A l ih =>
    rintro h ⟨h1, h2, d, rfl, a, s⟩
    obtain ⟨h3, h4, d', rfl, b, c⟩ := ih _ s
    obtain ⟨d1, d2⟩ := Hl.dis_un'.1 d
    exact ⟨h1.un h3, h4, Hl.dis_un.2 ⟨d2, d'⟩, by rw [Hl.un_assoc], ⟨h1, h3, d1, rfl, a, b⟩, c⟩
theorem sepL_join {l l' : List HP} : ∀ {h1 h2 : Hl}, h1.dis h2 → sepL l h1 → sepL l' h2 → sepL (l ++ l') (h1.un h2) := by
  induction l with
  | nil => intro h1 h2 _ a b; rw [show h1 = Hl.nil from a, Hl.nil_un]; exact b
  | cons A l ih =>
    rintro h1 h2 d ⟨h3, h4, d', rfl, a, b⟩ c
    obtain ⟨d1, d2⟩ := Hl.dis_un.1 d
    exact ⟨h3, h4.un h2, Hl.dis_un'.2 ⟨d', d1⟩, by rw [Hl.un_assoc], a, ih d2 b c⟩

/-- From the world W, of which the call holds the blocks p, to the world w, of which it holds h. -/
structure Upd (W : World) (p h : Hl) (w : World) : Prop where
  os : w.os = W.os
  tape : w.tape = W.tape
  output : w.output = W.output
  size : W.heap.size ≤ w.heap.size
  old : ∀ b, b < W.heap.size → p b = none → w.heap[b]? = W.heap[b]?
  dom : ∀ b, h b ≠ none → p b ≠ none ∨ W.heap.size ≤ b

theorem Upd.refl (W : World) (p : Hl) : Upd W p p W := ⟨rfl, rfl, rfl, Nat.le_refl _, fun _ _ _ => rfl, fun _ h => .inl h⟩
theorem Upd.sub {W w : World} {p h h' : Hl} (u : Upd W p h w) (s : ∀ b, h' b ≠ none → h b ≠ none) : Upd W p h' w :=
  ⟨u.os, u.tape, u.output, u.size, u.old, fun b e => u.dom b (s b e)⟩
/-- The world w holds, of what the call holds, just what the list says. -/
def Sat (W : World) (p : Hl) (l : List HP) (w : World) : Prop := ∃ h, sepL l h ∧ h.le w ∧ Upd W p h w

theorem Sat.perm {W w : World} {p : Hl} {l l' : List HP} (s : Sat W p l w) (q : l.Perm l') : Sat W p l' w :=
  let ⟨h, a, b, c⟩ := s; ⟨h, sepL_perm q h a, b, c⟩
theorem Sat.upd {W w : World} {p : Hl} {l : List HP} (s : Sat W p l w) : ∃ h, Upd W p h w := let ⟨h, _, _, c⟩ := s; ⟨h, c⟩
theorem Sat.tail {W w : World} {p : Hl} {A : HP} {l : List HP} (s : Sat W p (A :: l) w) : Sat W p l w := by
  obtain ⟨h, ⟨h1, h2, d, rfl, a, b⟩, c, u⟩ := s
  refine ⟨h2, b, Hl.le_right d c, u.sub fun b e => ?_⟩
  unfold Hl.un; cases h1 b <;> simp_all
theorem perm_front : ∀ (l : List HP) (i : Nat) (A : HP), l[i]? = some A → l.Perm (A :: l.eraseIdx i)
  | [], i, A, h => by simp at h
  | x :: l, 0, A, h => by simp at h; subst h; exact List.Perm.refl _
  | x :: l, i + 1, A, h => by
    have := perm_front l i A (by simpa using h)
    exact ((List.Perm.cons x this).trans (List.Perm.swap A x _))
theorem perm_set : ∀ (l : List HP) (i : Nat) (A B : HP), l[i]? = some A → (B :: l.eraseIdx i).Perm (l.set i B)
  | [], i, A, B, h => by simp at h
  | x :: l, 0, A, B, h => List.Perm.refl _
  | x :: l, i + 1, A, B, h => (List.Perm.swap x B _).trans (List.Perm.cons x (perm_set l i A B (by simpa using h)))
theorem Sat.front {W w : World} {p : Hl} {l : List HP} {i : Nat} {A : HP} (s : Sat W p l w) (hi : l[i]? = some A) : Sat W p (A :: l.eraseIdx i) w := by
  exact s.perm (perm_front l i A hi)
theorem Sat.back {W w : World} {p : Hl} {l : List HP} {i : Nat} {A B : HP} (s : Sat W p (B :: l.eraseIdx i) w) (hi : l[i]? = some A) : Sat W p (l.set i B) w := by
  exact s.perm (perm_set l i A B hi)
theorem Sat.weak {W w : World} {p : Hl} {A B : HP} {l : List HP} (s : Sat W p (A :: l) w) (h : ∀ h, A h → B h) : Sat W p (B :: l) w := by
  obtain ⟨k, ⟨h1, h2, d, e, a, b⟩, c⟩ := s
  exact ⟨k, ⟨h1, h2, d, e, h _ a, b⟩, c⟩
theorem Sat.ex {W w : World} {p : Hl} {α : Type} {A : α → HP} {l : List HP} (s : Sat W p (HP.ex A :: l) w) : ∃ x, Sat W p (A x :: l) w := by
  obtain ⟨k, ⟨h1, h2, d, e, ⟨x, a⟩, b⟩, c⟩ := s
  exact ⟨x, k, ⟨h1, h2, d, e, a, b⟩, c⟩
theorem Sat.unex {W w : World} {p : Hl} {α : Type} {A : α → HP} {l : List HP} (x : α) (s : Sat W p (A x :: l) w) : Sat W p (HP.ex A :: l) w :=
  s.weak fun _ a => ⟨x, a⟩
theorem Sat.pure {W w : World} {p : Hl} {q : Prop} {l : List HP} (s : Sat W p (HP.pure q :: l) w) : q ∧ Sat W p l w := by
  obtain ⟨k, ⟨h1, h2, d, e, ⟨a, rfl⟩, b⟩, c⟩ := s
  rw [Hl.nil_un] at e; subst e
  exact ⟨a, k, b, c⟩
theorem Sat.unpure {W w : World} {p : Hl} {q : Prop} {l : List HP} (a : q) (s : Sat W p l w) : Sat W p (HP.pure q :: l) w :=
  let ⟨k, b, c⟩ := s; ⟨k, ⟨Hl.nil, k, fun _ => .inl rfl, (Hl.nil_un k).symm, ⟨a, rfl⟩, b⟩, c⟩
theorem Sat.split {W w : World} {p : Hl} {A B : HP} {l : List HP} (s : Sat W p (HP.star A B :: l) w) : Sat W p (A :: B :: l) w := by
  obtain ⟨k, ⟨h1, h2, d, rfl, ⟨h3, h4, d', rfl, a, b⟩, c⟩, r⟩ := s
  obtain ⟨d1, d2⟩ := Hl.dis_un.1 d
  exact ⟨_, ⟨h3, h4.un h2, Hl.dis_un'.2 ⟨d', d1⟩, by rw [Hl.un_assoc], a, h4, h2, d2, rfl, b, c⟩, r⟩
theorem Sat.join {W w : World} {p : Hl} {A B : HP} {l : List HP} (s : Sat W p (A :: B :: l) w) : Sat W p (HP.star A B :: l) w := by
  obtain ⟨k, ⟨h3, h5, d, rfl, a, h4, h2, d', rfl, b, c⟩, r⟩ := s
  obtain ⟨d1, d2⟩ := Hl.dis_un'.1 d
  exact ⟨_, ⟨h3.un h4, h2, Hl.dis_un.2 ⟨d2, d'⟩, by rw [Hl.un_assoc], ⟨h3, h4, d1, rfl, a, b⟩, c⟩, r⟩
theorem Sat.unsplit {W w : World} {p : Hl} {A l : List HP} (s : Sat W p (sepL A :: l) w) : Sat W p (A ++ l) w := by
  obtain ⟨k, ⟨h1, h2, d, rfl, a, b⟩, r⟩ := s
  exact ⟨_, sepL_join d a b, r⟩
theorem Sat.unjoin {W w : World} {p : Hl} {A l : List HP} (s : Sat W p (A ++ l) w) : Sat W p (sepL A :: l) w := by
  obtain ⟨k, a, r⟩ := s
  obtain ⟨h1, h2, d, rfl, b, c⟩ := sepL_append _ a
  exact ⟨_, ⟨h1, h2, d, rfl, b, c⟩, r⟩
theorem Sat.block {W w : World} {p : Hl} {l : List HP} (s : Sat W p l w) (i : Nat) {g : Nat} {o : Obj} (hi : l[i]? = some (HP.blk g o)) : w.heap[g]? = some o := by
  obtain ⟨h, ⟨h1, h2, d, rfl, rfl, b⟩, c, u⟩ := s.front hi
  exact Hl.le_left c g o (by simp [Hl.one])
theorem Sat.cell {W w : World} {p : Hl} {l : List HP} (s : Sat W p l w) (i : Nat) {g : Nat} {cs : List Value} {e : TypeId} {k : Nat} {v : Value}
    (hi : l[i]? = some (HP.row g cs e)) (hk : cs[k]? = some v) : w.cell? ⟨g, k, none⟩ = some v := by
  have := s.block i hi
  simp [World.cell?, this, hk]
/-- What the call does not hold, and was there, is as it was. -/
theorem Sat.kept {W w : World} {p : Hl} {l : List HP} (s : Sat W p l w) {b : Nat} {o : Obj} (hb : W.heap[b]? = some o) (hp : p b = none) : w.heap[b]? = some o := by
  obtain ⟨h, _, _, u⟩ := s
  rw [u.old b (Array.getElem?_eq_some_iff.1 hb).1 hp]; exact hb
/-- A draw turns nothing. -/
theorem Sat.drew {W w : World} {p : Hl} {l : List HP} (s : Sat W p l w) : Sat W p l { w with drawn := w.drawn + 1 } := by
  obtain ⟨h, a, b, u⟩ := s
  exact ⟨h, a, b, ⟨u.os, u.tape, u.output, u.size, u.old, u.dom⟩⟩
/-- A new block. -/
theorem Sat.alloc {W w : World} {p : Hl} {l : List HP} (s : Sat W p l w) (o : Obj) : Sat W p (HP.blk w.heap.size o :: l) { w with heap := w.heap.push o } := by
  obtain ⟨h, a, b, u⟩ := s
  have hd : (Hl.one w.heap.size o).dis h := fun k => by
    by_cases e : k = w.heap.size
    · right
      cases hh : h k with
      | none => rfl
      | some o' => have := b k o' hh; rw [e] at this; simp at this
    · left; simp [Hl.one, e]
  refine ⟨_, ⟨_, h, hd, rfl, rfl, a⟩, Hl.le_un (fun k o' e => ?_) (fun k o' e => ?_), ⟨u.os, u.tape, u.output, ?_, fun k hk hp => ?_, fun k e => ?_⟩⟩
  · simp only [Hl.one] at e; split at e
    · rename_i hk; subst hk; simp at e; subst e; simp
    · cases e
  · have := b k o' e
    have hlt := (Array.getElem?_eq_some_iff.1 this).1
    rw [Array.getElem?_push, if_neg (by omega)]; exact this
  · have := u.size; simp; omega
  · have := u.size; rw [Array.getElem?_push, if_neg (by omega)]; exact u.old k hk hp
  · by_cases hk : k = w.heap.size
    · right; rw [hk]; exact u.size
    · refine u.dom k ?_
      simpa [Hl.un, Hl.one, hk] using e
/-- A block of the call's own is turned. -/
theorem Sat.write {W w w' : World} {p : Hl} {l : List HP} (s : Sat W p l w) (i : Nat) {g : Nat} {o o' : Obj} (hi : l[i]? = some (HP.blk g o))
    (hos : w'.os = w.os) (ht : w'.tape = w.tape) (hout : w'.output = w.output) (hz : w'.heap.size = w.heap.size)
    (hg : w'.heap[g]? = some o') (hn : ∀ b, b ≠ g → w'.heap[b]? = w.heap[b]?) : Sat W p (l.set i (HP.blk g o')) w' := by
  obtain ⟨h, ⟨h1, h2, d, rfl, rfl, b⟩, c, u⟩ := s.front hi
  have c2 := Hl.le_right d c
  have hg2 : h2 g = none := by rcases d g with e | e; · simp [Hl.one] at e
                               · exact e
  refine Sat.back (A := HP.blk g o) ⟨_, ⟨Hl.one g o', h2, fun k => ?_, rfl, rfl, b⟩, Hl.le_un (fun k x e => ?_) (fun k x e => ?_), ⟨hos.trans u.os, ht.trans u.tape, hout.trans u.output, by rw [hz]; exact u.size, fun k hk hp => ?_, fun k e => ?_⟩⟩ hi
  · rcases d k with e | e
    · left; simp only [Hl.one] at e ⊢; split at e
      · cases e
      · rename_i hk; rw [if_neg hk]
    · exact .inr e
  · simp only [Hl.one] at e; split at e
    · rename_i hk; subst hk; simp at e; subst e; exact hg
    · cases e
  · rw [hn k (fun hk => by rw [hk, hg2] at e; cases e)]; exact c2 k x e
  · have : k ≠ g := fun e => by
      subst e
      rcases u.dom k (by simp [Hl.un, Hl.one]) with h | h
      · exact h hp
      · omega
    rw [hn k this]; exact u.old k hk hp
  · refine u.dom k ?_
    by_cases hk : k = g
    · simp [Hl.un, Hl.one, hk]
    · simpa [Hl.un, Hl.one, hk] using e
end Go.Proofs.YtnfcbpgckomdfaaDoor
