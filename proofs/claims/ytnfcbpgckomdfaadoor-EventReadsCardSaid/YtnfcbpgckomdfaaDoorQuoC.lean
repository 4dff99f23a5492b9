/- Bytes and signs written into a builder; a piece between marks. -/
import Derived.Test.YtnfcbpgckomdfaaDoorQuoB
namespace Go.Proofs.YtnfcbpgckomdfaaDoor
open Go.Lib (strCells)
set_option maxHeartbeats 1600000
set_option maxRecDepth 20000
theorem writeByte_spec (b : Nat) (bs : List UInt8) (c : UInt8) (hl : bs.length ≤ 140737488355327) : Spec Tryd.prog 73 #[.pointer (some ⟨b, 0, none⟩), .int .u8 (c.toNat : Int)] noFacts [bld b bs] fun r L => r = .nilIface ∧ L = [bld b (bs ++ [c])] := by
  refine Spec.go (vs := [_, _]) (hT := tyOk) (hm := mixed0) Tryd.func73 rfl Tryd.ntmps73 rfl ?_
  intro W p _
  refine Good.on ?_
  refine Good.bldOpen fun q v hq => ?_
  refine Good.call1 0 (copyCheck_spec b q v hq) ck83 ?_
  rintro r L ⟨rfl, rfl⟩
  ((repeat (refine Good.on ?_; first | refine Good.build ?_ | refine Good.load 0 ?_ | refine Good.load 1 ?_ | refine Good.load 2 ?_ | refine Good.load 3 ?_ | refine Good.load 4 ?_ | refine Good.load 5 ?_ | refine Good.load 6 ?_ | refine Good.load 7 ?_ | refine Good.store 0 ?_ | refine Good.store 1 ?_ | refine Good.store 2 ?_ | refine Good.store 3 ?_ | refine Good.store 4 ?_ | refine Good.store 5 ?_ | refine Good.store 6 ?_ | refine Good.store 7 ?_ | refine Good.loadRow 0 ?_ | refine Good.loadRow 1 ?_ | refine Good.loadRow 2 ?_ | refine Good.loadRow 3 ?_ | refine Good.loadRow 4 ?_ | refine Good.loadRow 5 ?_)); refine Good.on ?_)
  refine Good.bufPush 1 [c] (fun g v' => ?_) (by simp; omega) (by simp) rfl rfl
  refine Good.know (fun w h => h.bufIs 1 rfl) fun hv => ?_
  obtain ⟨q', m, cc, rfl⟩ := hv
  ((repeat (refine Good.on ?_; first | refine Good.build ?_ | refine Good.load 0 ?_ | refine Good.load 1 ?_ | refine Good.load 2 ?_ | refine Good.load 3 ?_ | refine Good.load 4 ?_ | refine Good.load 5 ?_ | refine Good.load 6 ?_ | refine Good.load 7 ?_ | refine Good.store 0 ?_ | refine Good.store 1 ?_ | refine Good.store 2 ?_ | refine Good.store 3 ?_ | refine Good.store 4 ?_ | refine Good.store 5 ?_ | refine Good.store 6 ?_ | refine Good.store 7 ?_ | refine Good.loadRow 0 ?_ | refine Good.loadRow 1 ?_ | refine Good.loadRow 2 ?_ | refine Good.loadRow 3 ?_ | refine Good.loadRow 4 ?_ | refine Good.loadRow 5 ?_)); refine Good.on ?_)
  refine Good.ret1 Tryd.results73 (Res.tmp rfl) ⟨rfl, rfl⟩ (fun _ h => Sat.bldShut (.inr rfl) h)
theorem appendRune_spec (v : Value) (bs : List UInt8) (c : Nat) (hc : c < 128) (hl : bs.length ≤ 140737488355327) : Spec Tryd.prog 99 #[v, .int .i32 (c : Int)] noFacts [bufF 5 v bs] fun r L => L = [bufF 5 r (bs ++ [UInt8.ofNat c])] := by
  refine Spec.go (vs := [_, _]) (hT := tyOk) (hm := mixed0) Tryd.func99 rfl Tryd.ntmps99 rfl ?_
  intro W p _
  refine Good.on ?_
  rw [show IntKind.u32.wrap (c : Int) = (c : Int) from wrapU rfl c (by simp only [IntKind.bits]; omega)]
  refine Good.ifD (fun h => ?_) (fun h => ?_)
  rotate_left
  · omega
  refine Good.on ?_
  rw [u8w c (by omega)]
  refine Good.bufPush 0 [UInt8.ofNat c] (fun g v' => ?_) (by simp; omega) (by simp) rfl ?_
  rotate_left
  · have : (UInt8.ofNat c).toNat = c := by simp [UInt8.toNat_ofNat']; omega
    rw [strCells_str, List.map_cons, List.map_nil, this]; rfl
  refine Good.on ?_
  refine Good.ret1 Tryd.results99 (Res.tmp rfl) rfl (fun _ h => h)
theorem writeRune_spec (b : Nat) (bs : List UInt8) (c : Nat) (hc : c < 128) (hl : bs.length ≤ 140737488355327) : Spec Tryd.prog 76 #[.pointer (some ⟨b, 0, none⟩), .int .i32 (c : Int)] noFacts [bld b bs] fun r L => L = [bld b (bs ++ [UInt8.ofNat c])] := by
  refine Spec.go (vs := [_, _]) (hT := tyOk) (hm := mixed0) Tryd.func76 rfl Tryd.ntmps76 rfl ?_
  intro W p _
  refine Good.on ?_
  refine Good.bldOpen fun q v hq => ?_
  refine Good.call1 0 (copyCheck_spec b q v hq) ck83 ?_
  rintro r L ⟨rfl, rfl⟩
  refine Good.know (fun w h => h.bufIs 1 rfl) fun hv => ?_
  obtain ⟨q', m, cc, rfl⟩ := hv
  ((repeat (refine Good.on ?_; first | refine Good.build ?_ | refine Good.load 0 ?_ | refine Good.load 1 ?_ | refine Good.load 2 ?_ | refine Good.load 3 ?_ | refine Good.load 4 ?_ | refine Good.load 5 ?_ | refine Good.load 6 ?_ | refine Good.load 7 ?_ | refine Good.store 0 ?_ | refine Good.store 1 ?_ | refine Good.store 2 ?_ | refine Good.store 3 ?_ | refine Good.store 4 ?_ | refine Good.store 5 ?_ | refine Good.store 6 ?_ | refine Good.store 7 ?_ | refine Good.loadRow 0 ?_ | refine Good.loadRow 1 ?_ | refine Good.loadRow 2 ?_ | refine Good.loadRow 3 ?_ | refine Good.loadRow 4 ?_ | refine Good.loadRow 5 ?_)); refine Good.on ?_)
  refine Good.callP [1] (appendRune_spec _ bs c hc hl) ck99 ?_
  rintro r L rfl
  refine Good.mem (fun w h => h.perm (List.Perm.swap _ _ _)) ?_
  refine Good.know (fun w h => h.bufIs 1 rfl) fun hv => ?_
  obtain ⟨q'', m', cc', rfl⟩ := hv
  ((repeat (refine Good.on ?_; first | refine Good.build ?_ | refine Good.load 0 ?_ | refine Good.load 1 ?_ | refine Good.load 2 ?_ | refine Good.load 3 ?_ | refine Good.load 4 ?_ | refine Good.load 5 ?_ | refine Good.load 6 ?_ | refine Good.load 7 ?_ | refine Good.store 0 ?_ | refine Good.store 1 ?_ | refine Good.store 2 ?_ | refine Good.store 3 ?_ | refine Good.store 4 ?_ | refine Good.store 5 ?_ | refine Good.store 6 ?_ | refine Good.store 7 ?_ | refine Good.loadRow 0 ?_ | refine Good.loadRow 1 ?_ | refine Good.loadRow 2 ?_ | refine Good.loadRow 3 ?_ | refine Good.loadRow 4 ?_ | refine Good.loadRow 5 ?_)); refine Good.on ?_)
  refine Good.ret2 Tryd.results76 (Res.tmp rfl) (Res.tmp rfl) rfl (fun _ h => Sat.bldShut (.inr rfl) h)
end Go.Proofs.YtnfcbpgckomdfaaDoor
