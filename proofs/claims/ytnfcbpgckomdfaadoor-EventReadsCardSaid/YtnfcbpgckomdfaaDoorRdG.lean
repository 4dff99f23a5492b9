/- Slices and tables that a call reads and does not own. For all of this seat's walks. -/
import Derived.Test.YtnfcbpgckomdfaaDoorBld
namespace Go.Proofs.YtnfcbpgckomdfaaDoor
/-- What is read where a slice of n elements lies: the cells xs. -/
def rdAt (w : World) (v : Value) (n : Nat) (xs : List Value) : Prop := ∃ a c, v = .slice a n c ∧ ∀ j u, xs[j]? = some u → ∃ g off, a = some ⟨g, off, none⟩ ∧ w.cell? ⟨g, off + j, none⟩ = some u
def notIn (v : Value) (q : Hl) : Prop := ∀ a n c, v = .slice (some a) n c → q a.block = none
/-- A slice that is read, in memory that the call is not handed. -/
def Rd (v : Value) (n : Nat) (xs : List Value) : World → Hl → Prop := fun W q => rdAt W v n xs ∧ (xs ≠ [] → notIn v q)
theorem cell_keep {W w : World} {ad : Addr} {u : Value} (h : W.cell? ad = some u) (hk : ∀ o, W.heap[ad.block]? = some o → w.heap[ad.block]? = some o) : w.cell? ad = some u := by
  unfold World.cell? at h ⊢
  cases hb : W.heap[ad.block]? with
  | none => rw [hb] at h; simp at h
  | some o => rw [hb] at h; rw [hk o hb]; exact h
theorem Rd.at {W w : World} {p : Hl} {l : List HP} {v : Value} {n : Nat} {xs : List Value} (r : Rd v n xs W p) (s : Sat W p l w) : rdAt w v n xs := by
  obtain ⟨⟨a, c, rfl, h⟩, hn⟩ := r
  refine ⟨a, c, rfl, fun j u hj => ?_⟩
  obtain ⟨g, off, rfl, hc⟩ := h j u hj
  exact ⟨g, off, rfl, cell_keep hc fun o ho => s.kept ho (hn (fun e => by rw [e] at hj; simp at hj) ⟨g, off, none⟩ _ _ rfl)⟩
theorem Rd.is {W : World} {p : Hl} {v : Value} {n : Nat} {xs : List Value} (r : Rd v n xs W p) : ∃ a c, v = .slice a n c := by
  obtain ⟨⟨a, c, h, _⟩, _⟩ := r; exact ⟨a, c, h⟩
theorem Rd.pos {W : World} {p : Hl} {a : Option Addr} {n c : Nat} {xs : List Value} (r : Rd (.slice a n c) n xs W p) (h : 0 < xs.length) : ∃ g off, a = some ⟨g, off, none⟩ ∧ ∀ l w, Sat W p l w → ∀ j u, xs[j]? = some u → w.cell? ⟨g, off + j, none⟩ = some u := by
  obtain ⟨⟨a', c', he, h1⟩, _⟩ := id r
  cases he
  obtain ⟨g, off, rfl, _⟩ := h1 0 _ (List.getElem?_eq_getElem h)
  refine ⟨g, off, rfl, fun l w s j u hj => ?_⟩
  obtain ⟨a2, c2, he2, h2⟩ := r.at s
  cases he2
  obtain ⟨g', off', he3, h3⟩ := h2 j u hj
  cases he3
  exact h3
/-- Handed on to a call. -/
theorem Rd.on {W w : World} {p q r : Hl} {v : Value} {n : Nat} {xs : List Value} (h : Rd v n xs W p) (u : Upd W p (q.un r) w) : Rd v n xs w q := by
  obtain ⟨⟨a, c, rfl, h1⟩, h2⟩ := h
  refine ⟨⟨a, c, rfl, fun j x hj => ?_⟩, fun hne a' m c' he => ?_⟩
  · obtain ⟨g, off, rfl, hc⟩ := h1 j x hj
    refine ⟨g, off, rfl, cell_keep hc fun o ho => ?_⟩
    rw [u.old _ (Array.getElem?_eq_some_iff.1 ho).1 (h2 (fun e => by rw [e] at hj; simp at hj) ⟨g, off, none⟩ _ _ rfl)]; exact ho
  · obtain ⟨x, hx⟩ : ∃ x, xs[0]? = some x := ⟨_, List.getElem?_eq_getElem (List.length_pos_iff.2 hne)⟩
    obtain ⟨g, off, rfl, hc⟩ := h1 0 x hx
    cases he
    have hp : p g = none := h2 hne _ _ _ rfl
    show q g = none
    have hb : g < W.heap.size := by
      unfold World.cell? at hc
      cases hg : W.heap[g]? with
      | none => simp only [hg] at hc; cases hc
      | some o => exact (Array.getElem?_eq_some_iff.1 hg).1
    cases hq : q g with
    | none => rfl
    | some o => rcases u.dom g (by simp [Hl.un, hq]) with h | h
                · exact absurd hp h
                · omega
section
variable {C : Cx} {Q0 : Exit → Act → World → Prop} {K : List Fr} {tm : Tm} {l : List HP} {ops : Array Oper} {o : Oper} {os : List Oper} {d : Tmp} {J : Tm → List HP → Prop} {L : List Nat}
/-- A load of what is read out of memory that the call is not handed. -/
theorem Good.loadRd {t : TypeId} {x : Operand} {i : TI} {g k : Nat} (vs : List Value) (hc : ∀ w, Sat C.W C.p l w → ∀ j v, vs[j]? = some v → w.cell? ⟨g, k + j, none⟩ = some v) (kk : Good C Q0 (.ops ops os) K ((d, .v (.agg vs.toArray)) :: tm) l)
    (hg : guardE (dsts ops) tm o.guard = some true := by rfl) (ho : o.op = .load t x := by rfl) (hdst : o.dst = some d := by rfl) (hlt : Nat.blt d C.n = true := by rfl) (hi : C.T.get t = some i := by rfl) (hr : isRow i.desc = true := by rfl)
    (hx : opd tm x = some (.v (.pointer (some ⟨g, k, none⟩))) := by rfl) (hn : vs.length = i.size := by rfl) : Good C Q0 (.ops ops (o :: os)) K tm l :=
  Good.op hg (OpW.loadRow vs ho hi hr hx (dst_some hdst hlt) hn hc (by rw [put_some hdst]; exact kk))
theorem Good.dloadRow {S : World → Prop} (i : Nat) (vs : List Value) {t : TypeId} {x : Operand} {it : TI} {g k : Nat} (ho : ops[i]? = some o) (hv : ∀ w, S w → ∀ j v, vs[j]? = some v → w.cell? ⟨g, k + j, none⟩ = some v) (kk : Good C Q0 (.drw ops S (i :: L)) K ((d, .v (.agg vs.toArray)) :: tm) l) (hop : o.op = .load t x := by rfl) (hi : C.T.get t = some it := by rfl) (hr : isRow it.desc = true := by rfl)
    (hx : opd tm x = some (.v (.pointer (some ⟨g, k, none⟩))) := by rfl) (hn : vs.length = it.size := by rfl) (hs : Region.noSelect ops = true := by kernel_rfl) (hm : mayFirst ops L [i] = true := by kernel_rfl) (hg : guardE (dsts ops) tm o.guard = some true := by rfl) (hdst : o.dst = some d := by rfl) (hlt : Nat.blt d C.n = true := by rfl) : Good C Q0 (.drw ops S L) K tm l :=
  Good.dtake i (.agg vs.toArray) ho hs hm hg (dst_some hdst hlt) (fun a hA w hw => by unfold execOp; simp [hop, hA.eval hx, Ent.val, Instr.loadAt, Instr.sureAddr, loadVar_row hi hr hn (hv w hw)]) (by rw [put_some hdst]; exact kk)
end
end Go.Proofs.YtnfcbpgckomdfaaDoor
