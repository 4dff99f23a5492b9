/- tidewaiterlaw22.EventReads. -/
import Derived.Test.YtnfcbpgckomdfaaDoorEvts
namespace Go.Proofs.YtnfcbpgckomdfaaDoor
open Go.Lib (strCells)
theorem plainP_ok {e : EvD} (h : e.ok) : (plainP e).ok := by
  have z : I64 0 := ⟨by decide, by decide⟩
  have z1 : I64 1 := ⟨by decide, by decide⟩
  have z2 : I64 2 := ⟨by decide, by decide⟩
  cases e with
  | elem e => exact ⟨z, h.part, h.kind, h.time, z, z⟩
  | mark t => exact ⟨z1, z, z, z, h, z⟩
  | fault q f => exact ⟨z2, h.1, z, z, z, h.2⟩
theorem plainP_text {e : EvD} (h : e.ok) : (plainP e).text.length ≤ 100000 := by
  cases e with
  | elem e => exact h.text
  | mark t => simp [plainP]
  | fault q f => simp [plainP]
set_option maxHeartbeats 3200000
set_option maxRecDepth 20000
theorem eventReads_spec (s : List UInt8) (hl : s.length ≤ 9223372036854775807) : Spec Tryd.prog 4 #[.string (str s)] Env [] fun r L => r = .bool true ∧ L = [] := by
  refine Spec.go (vs := [_]) (hT := tyOk) (hm := mixed0) Tryd.func4 rfl Tryd.ntmps4 rfl ?_
  intro W p hE
  refine Good.on ?_
  refine Good.callK [] speaks22_spec stays_env hE ck19 ?_
  rintro r L ⟨rfl, rfl⟩
  refine Good.on ?_
  (refine Good.ifB (fun h => ?_) (fun h => ?_); exact absurd h (by decide))
  refine Good.on ?_
  rw [str_size]
  refine Good.ifD (fun h500 => ?_) (fun h500 => ?_) <;> refine Good.on ?_
  · refine Good.ret1 Tryd.results4 (Res.tmp rfl) ⟨rfl, rfl⟩ (fun _ h => h.clear)
  refine Good.callK [] (eRead_spec s (by omega)) stays_env hE ck20 ?_
  rintro r L ⟨rfl, rfl⟩
  cases hr : readE s with
  | none =>
    refine Good.on ?_
    (refine Good.ifB (fun h => ?_) (fun h => ?_); rotate_left; exact absurd h (by decide))
    refine Good.on ?_
    refine Good.val (Yv.ifaceNil rfl rfl rfl rfl rfl rfl) ?_
    refine Good.on ?_
    refine Good.ret1 Tryd.results4 (Res.tmp rfl) ⟨rfl, rfl⟩ (fun _ h => h.clear)
  | some e =>
    obtain ⟨hev, hok⟩ := read_is (by omega) hr
    obtain ⟨t, v, htv⟩ := e.iface
    have hc : evsC [e] = [.iface t v] := by simp [evsC, htv]
    rw [show readEV (some e) = .tuple #[.iface t v, .bool true] from by rw [readEV, htv]]
    refine Good.on ?_
    (refine Good.ifB (fun h => ?_) (fun h => ?_); exact absurd h (by decide))
    refine Good.on ?_
    refine Good.val (Yv.ifaceNe rfl rfl rfl rfl rfl rfl) ?_
    refine Good.on ?_
    (refine Good.partB (fun h => ?_) (fun h => ?_); rotate_left; exact absurd h (by decide))
    refine Good.on ?_
    refine Good.op rfl (OpW.lit rfl rfl rfl fun g => ?_)
    refine Good.mem (l' := [slc 38 1 (.slice (some ⟨g, 0, none⟩) 1 1) (evsC [e])]) (fun w h => by rw [hc]; exact Sat.rowSlc rfl (by unfold maxLen; omega) h) ?_
    refine Good.on ?_
    refine Good.callR (plain_spec _ [e] (by simp)) ck22 (fun w h => Rd.nil (h.slcRd 0 rfl (by decide) rfl)) ?_
    rintro r L rfl
    refine Good.know (fun w' h => h.slcIs (m := 1) 0 rfl (by decide) (by rw [plainC_len]; rfl)) ?_
    rintro ⟨a1, c1, rfl, hc1, hg⟩
    obtain ⟨g1, rfl⟩ := hg (by intro e'; have := congrArg List.length e'; rw [plainC_len] at this; simp at this)
    refine Good.on ?_
    refine Good.val (Yv.indexAddr rfl rfl rfl rfl rfl rfl (by decide) (by decide)) ?_
    refine Good.on ?_
    refine Good.loadRd (g := g1) (k := 0) (plainP e).cells (fun w h j v hj => h.slcCell (j := j) 0 rfl (by rw [Nat.zero_add]) (by simpa [plainC] using hj)) ?_
    refine Good.on ?_
    refine Good.call0 (refLine_spec (plainP e) (plainP_ok hok) (plainP_text hok)) ck21 ?_
    rintro r L ⟨rfl, rfl⟩
    rw [plainP_ev, hev]
    refine Good.on ?_
    refine Good.ret1 Tryd.results4 (Res.tmp rfl) ⟨?_, rfl⟩ (fun _ h => h.clear)
    simp
end Go.Proofs.YtnfcbpgckomdfaaDoor
