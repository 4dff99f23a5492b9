/- tidewaitertop.WholeSigns. -/
import Derived.Test.YtnfcbpgckomdfaaDoorUnqP
namespace Go.Proofs.YtnfcbpgckomdfaaDoor
open Go.Lib (strCells)
theorem sum_check : crcSum [49, 50, 51, 52, 53, 54, 55, 56, 57] = 3421780262 := by decide +kernel
theorem quote_a : quoteL [97] = [34, 97, 34] := by decide +kernel
theorem openL_seal (s : List UInt8) : openL (sealL s) = some s := by
  have h : (sealL s).take ((sealL s).length - 4) = s := by
    rw [sealL_length, Nat.add_sub_cancel]; unfold sealL; exact List.take_left
  rw [openL, if_neg (by rw [sealL_length]; omega), h, if_pos rfl]
section
variable {C : Cx} {Q0 : Exit → Act → World → Prop} {K : List Fr} {tm : Tm} {l : List HP} {ops : Array Oper} {o : Oper} {os : List Oper} {d : Tmp}
theorem frozen_at {w : World} {g k : Nat} {cs : Array Value} {t : TypeId} {lo hi : Nat} (hg : w.heap[g]? = some (.cells cs t (lo, hi))) (hk : k < lo) : w.frozen? ⟨g, k, none⟩ = false := by
  simp only [World.frozen?, hg]
  simp; omega
/-- b[k] = x in a text's own array. -/
theorem Good.storeRaw (n : Nat) {t : TypeId} {x y : Operand} {i : TI} {g cap k : Nat} {bs : List UInt8} {e : TypeId} {u : Ent} {b : UInt8} {l' : List HP} (hk : k < bs.length) (kk : Good C Q0 (.ops ops os) K tm l') (hv : u.val = .int .u8 b.toNat)
    (hg : guardE (dsts ops) tm o.guard = some true := by rfl) (ho : o.op = .store t x y := by rfl) (hdst : o.dst = none := by rfl) (hi : C.T.get t = some i := by rfl) (h1 : i.size = 1 := by rfl)
    (hx : opd tm x = some (.v (.pointer (some ⟨g, k, none⟩))) := by rfl) (hy : opd tm y = some u := by rfl) (hn : l[n]? = some (rawB e g cap bs) := by rfl) (hl : l.set n (rawB e g cap (bs.set k b)) = l' := by first | (dsimp only [List.set]; done) | rfl) : Good C Q0 (.ops ops (o :: os)) K tm l :=
  Good.op hg fun Kk Q hK a w hA hS => by
    have hb := hS.block n hn
    have hsz := C.ok.sizeOf hi w
    rw [h1] at hsz
    have hx' : a.eval x = .pointer (some ⟨g, k, none⟩) := hA.eval hx
    have hy' : a.eval y = .int .u8 b.toNat := by rw [hA.eval hy, hv]
    have hlen : k < (strCells (str bs) ++ List.replicate (cap - bs.length) (Value.int .u8 0)).length := by rw [List.length_append, strCells_len]; omega
    have hcell : w.cell? ⟨g, k, none⟩ = some ((strCells (str bs) ++ List.replicate (cap - bs.length) (Value.int .u8 0))[k]) := by
      simp only [World.cell?, hb]
      rw [List.getElem?_toArray, List.getElem?_eq_getElem hlen]; rfl
    have hfro := frozen_at hb hlen
    have hst : (_root_.Go.store (⟨g, k, none⟩ : Addr) (.int .u8 b.toNat)).run C.P w = .ok () (w.setRow g ((strCells (str bs) ++ List.replicate (cap - bs.length) (Value.int .u8 0)).toArray.setIfInBounds k (.int .u8 b.toNat))) := by
      rw [run_store C.P w _ _ _ rfl, hcell]
      simp only [hfro]
      rw [setCell_eq_setRow w g k _ e _ _ hb]
      rfl
    have hrun : (execOp a.eval o).run C.P w = .ok .skip (w.setRow g ((strCells (str bs) ++ List.replicate (cap - bs.length) (Value.int .u8 0)).toArray.setIfInBounds k (.int .u8 b.toNat))) := by
      unfold execOp
      simp only [ho, hx', hy', Instr.storeAt, Instr.sureAddr, storeVar, Sem.run_bind, Sem.run_pure, Result.andThen_ok, hsz]
      simp only [Value.cells, List.size_toArray, List.length_cons, List.length_nil, ne_eq, not_true, if_false, storeCells, Sem.run_bind, addr_add, Nat.add_zero, hst, Sem.run_pure, Result.andThen_ok]
    show o.wp C.P a w Kk Q
    unfold Oper.wp
    rw [hrun]
    refine hK tm l' kk _ _ (by have := hA.put (show dstOk C.n o.dst = true by rw [hdst]; rfl) undef; rw [hdst] at this ⊢; exact this) ?_
    rw [← hl]
    refine hS.write n hn rfl rfl rfl (by simp [World.setRow]) ?_ (fun b' hb' => setRow_other w g b' _ hb')
    rw [setRow_heap w g _ _ e _ hb]
    have e1 : (strCells (str bs) ++ List.replicate (cap - bs.length) (Value.int .u8 0)).set k (Value.int .u8 b.toNat) = strCells (str (bs.set k b)) ++ List.replicate (cap - bs.length) (Value.int .u8 0) := by
      rw [List.set_append, if_pos (by rw [strCells_len]; exact hk)]
      congr 1
      rw [strCells_str, strCells_str, List.map_set]
    have e2 : ((strCells (str bs) ++ List.replicate (cap - bs.length) (Value.int .u8 0)).toArray.setIfInBounds k (Value.int .u8 b.toNat)) = (strCells (str (bs.set k b)) ++ List.replicate (cap - (bs.set k b).length) (Value.int .u8 0)).toArray := by
      rw [List.length_set, ← e1]; simp
    rw [e2]
    have e3 : (strCells (str (bs.set k b)) ++ List.replicate (cap - (bs.set k b).length) (Value.int .u8 0)).length = (strCells (str bs) ++ List.replicate (cap - bs.length) (Value.int .u8 0)).length := by
      simp [strCells_len]
    rw [e3]
end
set_option maxHeartbeats 1600000
set_option maxRecDepth 20000
theorem sealL_len300 {s : List UInt8} (h : s.length ≤ 300) : (sealL s).length ≤ 304 := by rw [sealL_length]; omega
theorem wholeSigns_spec (s : List UInt8) (at_ b : Nat) (hat : at_ < 65536) (hb : b < 256) (hs : s.length ≤ 9223372036854775807) : Spec Tryd.prog 8 #[.string (str s), .int .u16 (at_ : Int), .int .u8 (b : Int)] Env [] fun r _ => r = .bool true := by
  refine Spec.go (vs := [_, _, _]) (hT := tyOk) (hm := mixed0) Tryd.func8 rfl Tryd.ntmps8 rfl ?_
  intro W p hF
  refine Good.on ?_
  refine Good.callP [] crcNew_spec ck41 ?_
  rintro r L ⟨g, rfl, rfl⟩
  refine Good.on ?_
  refine Good.val (Yv.ptrNil rfl rfl rfl rfl rfl) ?_
  refine Good.on ?_
  refine Good.partB (fun h => ?_) (fun h => ?_)
  · cases h
  refine Good.on ?_
  refine Good.callP [0] (crcSum_spec g [49, 50, 51, 52, 53, 54, 55, 56, 57] (by simp)) ck42 ?_
  rintro r L ⟨rfl, rfl⟩
  rw [sum_check]
  refine Good.on ?_
  (refine Good.partB (fun h => ?_) (fun h => ?_); exact absurd h (by decide))
  refine Good.on ?_
  refine Good.callK [] (quote_spec [97] (by simp)) stays_env hF ck43 ?_
  rintro r L ⟨rfl, _⟩
  refine Good.mem (fun w h => Sat.dropL h) ?_
  rw [quote_a]
  refine Good.on ?_
  rw [str_toList]
  refine Good.ifB (fun h => ?_) (fun h => ?_)
  · exact absurd h (by rw [show (⟨#[34, 97, 34]⟩ : ByteArray) = str [34, 97, 34] from rfl, str_toList]; decide)
  refine Good.on ?_
  rw [str_size]
  refine Good.ifD (fun h300 => ?_) (fun h300 => ?_) <;> refine Good.on ?_
  · refine Good.ret1 Tryd.results8 (Res.tmp rfl) rfl (fun _ h => h)
  have h300 : s.length ≤ 300 := by omega
  have hseal := sealL_len300 h300
  have hql := quoteL_len (sealL s)
  refine Good.callP [0] (crcSeal_spec g s (by omega)) ck44 ?_
  rintro r L ⟨rfl, rfl⟩
  refine Good.on ?_
  refine Good.callK [] (quote_spec (sealL s) (by omega)) stays_env hF ck43 ?_
  rintro r L ⟨rfl, _⟩
  refine Good.mem (fun w h => Sat.dropL h) ?_
  refine Good.on ?_
  refine Good.callK [] (unquote_spec (quoteL (sealL s)) (by omega)) stays_env hF ck45 ?_
  rintro r L ⟨rfl, _⟩
  refine Good.mem (fun w h => Sat.dropL h) ?_
  rw [unquote_quote]
  refine Good.on ?_
  refine Good.callP [0] (crcOpen_spec g (sealL s) (by omega)) ck46 ?_
  rintro r L ⟨rfl, rfl⟩
  rw [openL_seal]
  refine Good.on ?_
  (refine Good.partB (fun h => ?_) (fun h => ?_); exact absurd h (by decide))
  refine Good.on ?_
  (refine Good.partB (fun h => ?_) (fun h => ?_); exact absurd h (by decide))
  refine Good.on ?_
  rw [str_toList]
  refine Good.ifB (fun h => ?_) (fun h => ?_)
  · simp at h
  refine Good.on ?_
  refine Good.strBytes fun g2 cap hcap => ?_
  refine Good.on ?_
  have hq0 : 0 < (quoteL (sealL s)).length := by simp [quoteL]
  have hm : at_ % (quoteL (sealL s)).length < (quoteL (sealL s)).length := Nat.mod_lt _ hq0
  rw [i64w at_ (by omega)]
  refine Good.val (Yv.bin (z := .int .i64 ((at_ % (quoteL (sealL s)).length : Nat) : Int)) rfl rfl rfl ?_) ?_
  · have hd : decide (((quoteL (sealL s)).length : Int) = 0) = false := decide_eq_false (fun e => by have h1 := Int.ofNat.inj e; rw [h1] at hq0; exact absurd hq0 (Nat.lt_irrefl 0))
    simp only [Ent.val, binE, isShift, decide_true, intBin, hd]
    rw [Int.ofNat_tmod]
  generalize at_ % (quoteL (sealL s)).length = k at hm ⊢
  refine Good.on ?_
  obtain ⟨c, hc⟩ : ∃ c, (quoteL (sealL s))[k]? = some c := ⟨_, List.getElem?_eq_getElem hm⟩
  refine Good.val (Yv.indexAddr rfl rfl rfl rfl rfl rfl (by omega) (by omega)) ?_
  refine Good.on ?_
  rw [show 0 + ((k : Nat) : Int).toNat * ti5.size = k from by simp [ti5]]
  refine Good.loadRaw 0 (b := c) hc ?_
  refine Good.on ?_
  refine Good.val (Yv.indexAddr rfl rfl rfl rfl rfl rfl (by omega) (by omega)) ?_
  refine Good.on ?_
  rw [show 0 + ((k : Nat) : Int).toNat * ti5.size = k from by simp [ti5]]
  have hcb : c.toNat < 256 := UInt8.toNat_lt c
  have hadd : IntKind.u8.wrap ((c.toNat : Int) + (b : Int)) = ((c + UInt8.ofNat b).toNat : Int) := by
    rw [UInt8.toNat_add, UInt8.toNat_ofNat']
    simp [IntKind.wrap, IntKind.bits, IntKind.signed]
  refine Good.storeRaw 0 (b := c + UInt8.ofNat b) hm ?_ (hv := ?_)
  rotate_left
  · exact congrArg (Value.int .u8) hadd
  refine Good.on ?_
  refine Good.op rfl (OpW.yields _ rfl (fun a w hA hS => convBytes rfl rfl rfl rfl rfl rfl rfl (by rw [hA.eval rfl]; have := hS.rawBytes 0 rfl (P := Tryd.prog); rw [List.length_set] at this; exact this)) ?_)
  refine Good.on ?_
  refine Good.callK [] (unquote_spec ((quoteL (sealL s)).set (k) (c + UInt8.ofNat b)) (by rw [List.length_set]; omega)) stays_env hF ck45 ?_
  rintro r L ⟨rfl, _⟩
  refine Good.mem (fun w h => Sat.dropL h) ?_
  have hset : ∀ z, unquoteL ((quoteL (sealL s)).set (k) (c + UInt8.ofNat b)) = some z → z = sealL s → b = 0 := fun z hz e => by
    have h1 := unquote_is hz
    rw [e] at h1
    have h2 := congrArg (·[k]?) h1
    simp only [hc, List.getElem?_set_self hm] at h2
    have h3 := congrArg UInt8.toNat (Option.some.inj h2)
    rw [UInt8.toNat_add, UInt8.toNat_ofNat'] at h3
    omega
  cases hu : unquoteL ((quoteL (sealL s)).set (k) (c + UInt8.ofNat b)) with
  | none =>
    refine Good.on ?_
    refine Good.partB (fun h => ?_) (fun h => ?_) <;> refine Good.on ?_
    · refine Good.ret1 Tryd.results8 (Res.tmp rfl) rfl (fun _ h => h)
    · (refine Good.partB (fun h => ?_) (fun h => ?_); rotate_left; exact absurd h (by decide))
      refine Good.on ?_
      refine Good.ret1 Tryd.results8 (Res.tmp rfl) rfl (fun _ h => h)
  | some z =>
    refine Good.on ?_
    refine Good.partB (fun hb1 => ?_) (fun hb1 => ?_) <;> refine Good.on ?_
    · refine Good.ret1 Tryd.results8 (Res.tmp rfl) rfl (fun _ h => h)
    · (refine Good.partB (fun h => ?_) (fun h => ?_); exact absurd h (by decide))
      refine Good.on ?_
      refine Good.ret1 Tryd.results8 (Res.tmp rfl) ?_ (fun _ h => h)
      have hb0 : b ≠ 0 := by intro e; rw [e] at hb1; simp at hb1
      have hz : z ≠ sealL s := fun e => hb0 (hset z hu e)
      show Value.bool _ = _
      simp [hz]
end Go.Proofs.YtnfcbpgckomdfaaDoor
