/- From the rows' listed variables to what the walks read; a world that holds them. For all of this seat's rows. -/
import Derived.Test.YtnfcbpgckomdfaaDoorEnv
import Derived.Test.YtnfcbpgckomdfaaDoorRows
import Derived.Test.YtnfcbpgckomdfaaDoorTie
import Derived.PinnedBridge
import Derived.Lay
import Derived.Lib.LaidU8
import Derived.LaidLaws
import Derived.MakeChecks
import Derived.ProofKit
import Derived.Deep.Slices
import Derived.Deep.Strs
import Derived.Below
import Derived.OpenShut
import Derived.SevenTiedAt
namespace Go.Proofs.YtnfcbpgckomdfaaDoor
open Go.ChangeShapes Go.WideShapes Go.ChangeAt Go.RowKit
open Go.Lib (VarReads tabData cells_of_tab)
theorem own : ownKnob Tryd.prog.godebug = none := by kernel_rfl
theorem laidOut : laidOutB Tryd.prog = true := by kernel_rfl
theorem Sat.below {W w : World} {l : List HP} (s : Sat W Hl.nil l w) : Below W.heap.size W w := by
  obtain ⟨h, _, _, u⟩ := s
  exact ⟨u.os, u.tape, u.output, u.size, fun k hk => u.old k hk rfl⟩
/-- A table of numbers that is listed. -/
theorem tab_of_reads {W : World} {name : String} {g : Nat} {t e n : Nat} {k : IntKind} {zs : List Int} {d : DataW Unit} (hd : d = tabData k zs) (hg : Tryd.prog.globalNamed name = some g) (hty : (Tryd.prog.globals[g]?).map (·.type) = some t) (ht : Tryd.prog.underlying t = some (.array n e)) (he : Tryd.prog.underlying e = some (.int k)) (hce : Tryd.prog.cellsOf e = 1) (hct : Tryd.prog.cellsOf t = n)
    (h : VarReads Tryd.prog W name d) : Tab g (zs.map fun z => Value.int k z) W Hl.nil := by
  subst hd
  obtain ⟨g', t', cs, fuel, p, h1, h2, h3, h4⟩ := h
  obtain rfl : g = g' := Option.some.inj (hg.symm.trans h1)
  obtain rfl : t = t' := Option.some.inj (hty.symm.trans h2)
  have hc := cells_of_tab ht he hce hct h4
  refine ⟨fun j v hj => ?_, rfl⟩
  rw [World.var?_cell hg h3 j, ← hj, ← hc]
  simp
/-- An error that is listed. -/
theorem err_of_reads {W : World} {name nm : String} {g : Nat} {t : Nat} {ms : Array (String × TypeId)} {d : DataW Unit} (hg : Tryd.prog.globalNamed name = some g) (hty : (Tryd.prog.globals[g]?).map (·.type) = some t) (ht : Tryd.prog.underlying t = some (.interface ms)) (h : VarReads Tryd.prog W name (.iface nm d)) : ErrIs g W Hl.nil := by
  obtain ⟨g', t', cs, fuel, p, h1, h2, h3, h4⟩ := h
  obtain rfl : g = g' := Option.some.inj (hg.symm.trans h1)
  obtain rfl : t = t' := Option.some.inj (hty.symm.trans h2)
  obtain ⟨_, u, v, hc, _, _⟩ := iface_of_trod ht h4
  refine ⟨u, v, fun j x hj => ?_, rfl⟩
  rw [World.var?_cell hg h3 j, ← hj, ← hc]
  simp
theorem first_is : Pinned.utf8First = tabData .u8 ((List.range 256).map fun (b : Nat) => (firstN b : Int)) := by kernel_rfl
theorem pow10_is : (Rows.laid_internal_strconv_uint64pow10 : DataW Unit) = tabData .u64 ((List.range 20).map fun (i : Nat) => ((10 ^ i : Nat) : Int)) := by kernel_rfl
theorem bruijn_is : (Rows.laid_math_bits_deBruijn64tab : DataW Unit) = tabData .u8 (bruijnL.map fun (n : Nat) => (n : Int)) := by kernel_rfl
theorem accept_of_reads {W : World} (h : VarReads Tryd.prog W "unicode/utf8.acceptRanges" Rows.laid_unicode_utf8_acceptRanges) : Tab 2 acceptC W Hl.nil := by
  have hd : (Rows.laid_unicode_utf8_acceptRanges : DataW Unit) = .agg ((List.range 16).map fun i => .agg ([(acceptL.getD (2 * i) 0 : Int), (acceptL.getD (2 * i + 1) 0 : Int)].map fun z => .lit (.int .u8 z))) := by kernel_rfl
  rw [hd] at h
  obtain ⟨g', t', cs, fuel, p, h1, h2, h3, h4⟩ := h
  obtain rfl : 2 = g' := Option.some.inj ((show Tryd.prog.globalNamed "unicode/utf8.acceptRanges" = some 2 by kernel_rfl).symm.trans h1)
  obtain rfl : 200 = t' := Option.some.inj ((show (Tryd.prog.globals[2]?).map (·.type) = some 200 by kernel_rfl).symm.trans h2)
  refine ⟨fun j v hj => ?_, rfl⟩
  have hc2 : Tryd.prog.cellsOf 199 = 2 := by kernel_rfl
  have hj32 : j < 32 := by have := (List.getElem?_eq_some_iff.1 hj).1; simpa [acceptC, acceptL] using this
  obtain ⟨fuel', d, q, hd1, hd2⟩ := Lib.array_elem tk200.under h4 (j / 2) (by omega)
  rw [hc2] at hd2
  simp only [List.getElem?_map, List.getElem?_range (show j / 2 < 16 by omega), Option.map_some, Option.some.injEq] at hd1
  subst hd1
  have he := Lib.ints_of_struct (k := .u8) tk199.under (fun i f hf => by
    match i, hf with
    | 0, hf => simp at hf; subst hf; exact ⟨tk5.under, rfl, by kernel_rfl⟩
    | 1, hf => simp at hf; subst hf; exact ⟨tk5.under, rfl, by kernel_rfl⟩) (by rw [hc2]; rfl) hd2
  rw [World.var?_cell h1 h3 j]
  have hlen : acceptL.length = 32 := by simp [acceptL]
  have hv : v = .int .u8 ((acceptL.getD j 0 : Nat) : Int) := by
    rw [acceptC, List.getElem?_map, List.getElem?_eq_getElem (by omega)] at hj
    simp only [Option.map_some, Option.some.injEq] at hj
    rw [← hj, List.getD_eq_getElem?_getD, List.getElem?_eq_getElem (by omega)]; rfl
  subst hv
  have h5 := congrArg (·[j % 2]?) he
  rw [List.getElem?_take, if_pos (Nat.mod_lt _ (by omega)), List.getElem?_drop, Nat.div_add_mod' j 2] at h5
  rw [Array.getElem?_toList] at h5
  rw [h5]
  rcases Nat.mod_two_eq_zero_or_one j with e | e
  · rw [e, show 2 * (j / 2) = j from by omega]; rfl
  · rw [e, show 2 * (j / 2) + 1 = j from by omega]; rfl
theorem env_of_reads {W : World} (h1 : VarReads Tryd.prog W "math/bits.deBruijn64tab" Rows.laid_math_bits_deBruijn64tab) (h2 : VarReads Tryd.prog W "internal/strconv.uint64pow10" Rows.laid_internal_strconv_uint64pow10) (h3 : VarReads Tryd.prog W "unicode/utf8.acceptRanges" Rows.laid_unicode_utf8_acceptRanges) (h4 : VarReads Tryd.prog W "strconv.ErrRange" Rows.laid_strconv_ErrRange) (h5 : VarReads Tryd.prog W "strconv.ErrSyntax" Rows.laid_strconv_ErrSyntax) (h6 : VarReads Tryd.prog W "unicode/utf8.first" Rows.laid_unicode_utf8_first) : Env W Hl.nil := by
  refine ⟨⟨⟨?_, accept_of_reads h3⟩, ?_⟩, ?_, ?_, ?_⟩
  · have := tab_of_reads (g := 1) (t := 197) (e := 5) first_is (by kernel_rfl) (by kernel_rfl) tk197.under tk5.under (by kernel_rfl) (by kernel_rfl) h6
    simpa [firstC, Function.comp_def] using this
  · have := tab_of_reads (g := 3) (t := 202) (e := 170) pow10_is (by kernel_rfl) (by kernel_rfl) tk202.under tk170.under (by kernel_rfl) (by kernel_rfl) h2
    simpa [pow10C, Function.comp_def] using this
  · have := tab_of_reads (g := 7) (t := 217) (e := 5) bruijn_is (by kernel_rfl) (by kernel_rfl) tk217.under tk5.under (by kernel_rfl) (by kernel_rfl) h1
    simpa [bruijnC, Function.comp_def] using this
  · exact err_of_reads (t := 109) (by kernel_rfl) (by kernel_rfl) tk109.under h5
  · exact err_of_reads (t := 109) (by kernel_rfl) (by kernel_rfl) tk109.under h4
end Go.Proofs.YtnfcbpgckomdfaaDoor
