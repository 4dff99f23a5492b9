/- Go's own tables, which calls read. For all of this seat's walks. -/
import Derived.Test.YtnfcbpgckomdfaaDoorMore
import Derived.Test.YtnfcbpgckomdfaaDoorBits
namespace Go.Proofs.YtnfcbpgckomdfaaDoor
/-- A package-level variable that reads so. -/
def Tab (g : Nat) (cs : List Value) : World → Hl → Prop := fun W q => (∀ j v, cs[j]? = some v → W.cell? ⟨g, j, none⟩ = some v) ∧ q g = none
theorem cell_lt {w : World} {g k : Nat} {v : Value} (h : w.cell? ⟨g, k, none⟩ = some v) : g < w.heap.size := by
  unfold World.cell? at h
  cases hg : w.heap[g]? with
  | none => simp only [hg] at h; cases h
  | some o => exact (Array.getElem?_eq_some_iff.1 hg).1
theorem stays_tab (g : Nat) (cs : List Value) (hne : 0 < cs.length) : Stays (Tab g cs) := fun W w p q r h u => by
  obtain ⟨h1, h2⟩ := h
  have h0 := cell_lt (h1 0 _ (List.getElem?_eq_getElem hne))
  refine ⟨fun j v hj => cell_keep (h1 j v hj) fun o ho => ?_, ?_⟩
  · rw [u.old _ h0 h2]; exact ho
  · cases hq : q g with
    | none => rfl
    | some o => rcases u.dom g (by simp [Hl.un, hq]) with h | h
                · exact absurd h2 h
                · omega
theorem Tab.cell {W w : World} {p : Hl} {l : List HP} {g : Nat} {cs : List Value} (h : Tab g cs W p) {j : Nat} {v : Value} (hj : cs[j]? = some v) (s : Sat W p l w) : w.cell? ⟨g, j, none⟩ = some v := cell_keep (h.1 j v hj) fun _ ho => s.kept ho h.2
section
variable {C : Cx} {Q0 : Exit → Act → World → Prop} {K : List Fr} {tm : Tm} {l : List HP} {ops : Array Oper} {o : Oper} {os : List Oper} {d : Tmp}
/-- A load of a cell that is known. -/
theorem Good.loadC {t : TypeId} {x : Operand} {i : TI} {ad : Addr} {v : Value} (hc : ∀ w, Sat C.W C.p l w → w.cell? ad = some v) (kk : Good C Q0 (.ops ops os) K ((d, .v v) :: tm) l)
    (hg : guardE (dsts ops) tm o.guard = some true := by rfl) (ho : o.op = .load t x := by rfl) (hdst : o.dst = some d := by rfl) (hlt : Nat.blt d C.n = true := by rfl) (hi : C.T.get t = some i := by rfl) (hr : isRow i.desc = false := by rfl)
    (hx : opd tm x = some (.v (.pointer (some ad))) := by rfl) : Good C Q0 (.ops ops (o :: os)) K tm l :=
  Good.op hg (OpW.load ho hi hr hx (dst_some hdst hlt) hc (by rw [put_some hdst]; exact kk))
end
/-- unicode/utf8's tables. -/
def firstN (b : Nat) : Nat := if b < 128 then 240 else if b < 194 then 241 else if b < 224 then 2 else if b = 224 then 19 else if b = 237 then 35 else if b < 240 then 3 else if b = 240 then 52 else if b < 244 then 4 else if b = 244 then 68 else 241
def firstC : List Value := (List.range 256).map fun (b : Nat) => .int .u8 (firstN b)
def acceptL : List Nat := [128, 191, 160, 191, 128, 159, 144, 191, 128, 143] ++ List.replicate 22 0
def acceptC : List Value := acceptL.map fun (n : Nat) => .int .u8 n
def Utf : World → Hl → Prop := fun W q => Tab 1 firstC W q ∧ Tab 2 acceptC W q
theorem stays_utf : Stays Utf := (stays_tab _ firstC (by simp [firstC])).and (stays_tab _ acceptC (by simp [acceptC, acceptL]))
/-- The tables of numbers' digits. -/
def pow10C : List Value := (List.range 20).map fun i => .int .u64 (10 ^ i : Nat)
def bruijnL : List Nat := [0, 1, 56, 2, 57, 49, 28, 3, 61, 58, 42, 50, 38, 29, 17, 4, 62, 47, 59, 36, 45, 43, 51, 22, 53, 39, 33, 30, 24, 18, 12, 5, 63, 55, 48, 27, 60, 41, 37, 16, 46, 35, 44, 21, 52, 32, 23, 11, 54, 26, 40, 15, 34, 20, 31, 10, 25, 14, 19, 9, 13, 8, 7, 6]
def bruijnC : List Value := bruijnL.map fun (n : Nat) => .int .u8 n
/-- The errors that the reading of numbers answers with. -/
def ErrIs (g : Nat) : World → Hl → Prop := fun W q => ∃ t v, Tab g [.iface t v] W q
def Env : World → Hl → Prop := fun W q => (Utf W q ∧ Tab 3 pow10C W q) ∧ Tab 7 bruijnC W q ∧ ErrIs 4 W q ∧ ErrIs 5 W q
theorem stays_err (g : Nat) : Stays (ErrIs g) := fun W w p q r ⟨t, v, h⟩ u => ⟨t, v, stays_tab g _ (by simp) W w p q r h u⟩
theorem stays_env : Stays Env := (stays_utf.and (stays_tab _ pow10C (by simp [pow10C]))).and ((stays_tab _ bruijnC (by simp [bruijnC, bruijnL])).and ((stays_err _).and (stays_err _)))
theorem Env.utf {W : World} {q : Hl} (h : Env W q) : Utf W q := h.1.1
theorem firstC_get (b : Nat) (h : b < 256) : firstC[b]? = some (.int .u8 (firstN b)) := by simp [firstC, h]
theorem firstN_cases (b : Nat) (h : 128 ≤ b) : (firstN b = 241 ∧ (b < 194 ∨ 244 < b)) ∨ (firstN b = 2 ∧ 194 ≤ b ∧ b < 224) ∨ (firstN b = 19 ∧ b = 224) ∨ (firstN b = 35 ∧ b = 237) ∨ (firstN b = 3 ∧ 224 < b ∧ b < 240 ∧ b ≠ 237) ∨ (firstN b = 52 ∧ b = 240) ∨ (firstN b = 4 ∧ 240 < b ∧ b < 244) ∨ (firstN b = 68 ∧ b = 244) := by
  unfold firstN
  repeat' split
  all_goals omega
end Go.Proofs.YtnfcbpgckomdfaaDoor
