/- config.Rule: a rule's line. -/
import Derived.Test.YtnfcbpgckomdfaaDoorCfg
namespace Go.Proofs.YtnfcbpgckomdfaaDoor
open Go.Lib (strCells)
set_option maxHeartbeats 1600000
set_option maxRecDepth 20000
theorem cfgRule_spec (r : RuleD) (hr : r.ok) : Spec Tryd.prog 11 #[r.val] Env [] fun x L => x = .string (str (ruleL r)) ∧ L = [] := by
  refine Spec.go (vs := [_]) (hT := tyOk) (hm := mixed0) Tryd.func11 rfl Tryd.ntmps11 rfl ?_
  intro W p hE
  refine Good.on ?_
  refine Good.box (us := r.cells) (fun g => ?_)
  refine Good.on ?_
  refine Good.hold (fun w => CellAt ⟨g, 0, none⟩ (.int .i64 r.kind) w) (fun w h => h.cell 0 rfl rfl) ?_
  refine Good.drawn ?_
  refine Good.dload 1 rfl (fun w h => h) ?_
  refine Good.drawn ?_
  by_cases hk : r.kind < 0
  · rw [decide_eq_true hk]
    refine Good.weak (tm' := [(7, .t), (1, .v (.pointer (some ⟨g, 0, none⟩)))]) ⟨rfl, rfl, trivial⟩ (fun _ h => h) ?_ (fun w h => h.cell 0 rfl rfl)
    refine Good.drawn ?_
    refine Good.dend ?_
    refine Good.on ?_
    refine Good.ret1 Tryd.results11 (Res.tmp rfl) ⟨?_, rfl⟩ (fun _ h => h.clear)
    rw [ruleL, if_neg (by omega), if_neg (by omega), if_neg (by omega)]; rfl
  rw [decide_eq_false hk]
  refine Good.weak (tm' := [(7, .f), (1, .v (.pointer (some ⟨g, 0, none⟩)))]) ⟨rfl, rfl, trivial⟩ (fun _ h => h) ?_ (fun w h => h.cell 0 rfl rfl)
  refine Good.drawn ?_
  refine Good.dload 5 rfl (fun w h => h) ?_
  refine Good.doneS 6 rfl (OpW.call0 names_spec ck52 rfl rfl rfl ?_)
  rintro v L ⟨rfl, rfl⟩
  refine ⟨fun w h => h.cell 0 rfl rfl, ?_⟩
  refine Good.drawn ?_
  refine Good.dend ?_
  refine Good.on ?_
  refine Good.ifD (fun h3 => ?_) (fun h3 => ?_)
  · refine Good.on ?_
    refine Good.ret1 Tryd.results11 (Res.tmp rfl) ⟨?_, rfl⟩ (fun _ h => h.clear)
    rw [ruleL, if_neg (by omega), if_neg (by omega), if_neg (by omega)]; rfl
  refine Good.on ?_
  refine Good.hold (fun w => CellAt ⟨g, 0, none⟩ (.int .i64 r.kind) w) (fun w h => h.cell 0 rfl rfl) ?_
  refine Good.drawn ?_
  refine Good.dload 2 rfl (fun w h => h) ?_
  refine Good.doneS 0 rfl (OpW.call0 names_spec ck52 rfl rfl rfl ?_)
  rintro v L ⟨rfl, rfl⟩
  refine ⟨fun w h => h.cell 0 rfl rfl, ?_⟩
  have h2 : r.kind = 0 ∨ r.kind = 1 ∨ r.kind = 2 := by omega
  rcases h2 with h2 | h2 | h2
  · refine Good.dval 3 rfl (Yv.indexAgg (v := .string (str boundedL)) rfl rfl rfl rfl rfl (by kernel_rfl) rfl rfl (by omega) (by omega) (by rw [h2]; rfl)) ?_
    refine Good.drawn ?_
    refine Good.dend ?_
    refine Good.on ?_
    refine Good.load 0 (v := .int .i64 r.kind) ?_
    refine Good.on ?_
    rw [h2]
    (refine Good.ifB (fun h => ?_) (fun h => ?_); exact absurd h (by decide))
    refine Good.on ?_
    (refine Good.ifB (fun h => ?_) (fun h => ?_); exact absurd h (by decide))
    refine Good.on ?_
    refine Good.load 0 (v := .int .i64 r.bound) ?_
    refine Good.on ?_
    refine Good.op rfl (OpW.lit rfl rfl rfl fun g' => ?_)
    refine Good.mem (l' := [slc 3 1 (.slice (some ⟨g', 0, none⟩) 1 1) (intsC [r.bound])]) (fun w h => (Sat.rowSlc rfl (by unfold maxLen; omega) h).second) ?_
    refine Good.on ?_
    refine Good.callR (line_spec boundedL _ [r.bound] (by decide) (by simp) (by simp; exact hr.bound)) ck53 (fun w h => ⟨stays_env.at hE h, Rd.nil (h.slcRd 0 rfl (by decide) rfl)⟩) ?_
    rintro v L ⟨rfl, rfl⟩
    refine Good.on ?_
    refine Good.ret1 Tryd.results11 (Res.tmp rfl) ⟨?_, rfl⟩ (fun _ h => h.clear)
    rw [ruleL, if_pos h2]; simp [lineL, numsL]
  · refine Good.dval 3 rfl (Yv.indexAgg (v := .string (str markedL)) rfl rfl rfl rfl rfl (by kernel_rfl) rfl rfl (by omega) (by omega) (by rw [h2]; rfl)) ?_
    refine Good.drawn ?_
    refine Good.dend ?_
    refine Good.on ?_
    refine Good.load 0 (v := .int .i64 r.kind) ?_
    refine Good.on ?_
    rw [h2]
    (refine Good.ifB (fun h => ?_) (fun h => ?_); rotate_left; exact absurd h (by decide))
    refine Good.on ?_
    refine Good.load 0 (v := .int .i64 r.sign) ?_
    refine Good.on ?_
    refine Good.op rfl (OpW.lit rfl rfl rfl fun g' => ?_)
    refine Good.mem (l' := [slc 3 1 (.slice (some ⟨g', 0, none⟩) 1 1) (intsC [r.sign])]) (fun w h => (Sat.rowSlc rfl (by unfold maxLen; omega) h).second) ?_
    refine Good.on ?_
    refine Good.callR (line_spec markedL _ [r.sign] (by decide) (by simp) (by simp; exact hr.sign)) ck53 (fun w h => ⟨stays_env.at hE h, Rd.nil (h.slcRd 0 rfl (by decide) rfl)⟩) ?_
    rintro v L ⟨rfl, rfl⟩
    refine Good.on ?_
    refine Good.ret1 Tryd.results11 (Res.tmp rfl) ⟨?_, rfl⟩ (fun _ h => h.clear)
    rw [ruleL, if_neg (by omega), if_pos h2]; simp [lineL, numsL]
  · refine Good.dval 3 rfl (Yv.indexAgg (v := .string (str percentL)) rfl rfl rfl rfl rfl (by kernel_rfl) rfl rfl (by omega) (by omega) (by rw [h2]; rfl)) ?_
    refine Good.drawn ?_
    refine Good.dend ?_
    refine Good.on ?_
    refine Good.load 0 (v := .int .i64 r.kind) ?_
    refine Good.on ?_
    rw [h2]
    (refine Good.ifB (fun h => ?_) (fun h => ?_); exact absurd h (by decide))
    refine Good.on ?_
    (refine Good.ifB (fun h => ?_) (fun h => ?_); rotate_left; exact absurd h (by decide))
    refine Good.on ?_
    refine Good.load 0 (v := .int .i64 r.percent) ?_
    refine Good.on ?_
    refine Good.load 0 (v := .int .i64 r.window) ?_
    refine Good.on ?_
    refine Good.op rfl (OpW.lit rfl rfl rfl fun g' => ?_)
    refine Good.mem (l' := [slc 3 1 (.slice (some ⟨g', 0, none⟩) 2 2) (intsC [r.percent, r.window])]) (fun w h => (Sat.rowSlc rfl (by unfold maxLen; omega) h).second) ?_
    refine Good.on ?_
    refine Good.callR (line_spec percentL _ [r.percent, r.window] (by decide) (by simp) (by simp; exact ⟨hr.percent, hr.window⟩)) ck53 (fun w h => ⟨stays_env.at hE h, Rd.nil (h.slcRd 0 rfl (by decide) rfl)⟩) ?_
    rintro v L ⟨rfl, rfl⟩
    refine Good.on ?_
    refine Good.ret1 Tryd.results11 (Res.tmp rfl) ⟨?_, rfl⟩ (fun _ h => h.clear)
    rw [ruleL, if_neg (by omega), if_neg (by omega), if_pos h2]; simp [lineL, numsL]
end Go.Proofs.YtnfcbpgckomdfaaDoor
