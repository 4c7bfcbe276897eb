/- The functions without a body that this seat's laws come to, by their contracts. -/
import Derived.Test.YtgfohimonbagmaaGreatDoorAMMemo
import Derived.Test.YtgfohimonbagmaaGreatDoorProg
import Derived.KernelRfl
namespace Go.Proofs.YtgfohimonbagmaaGreatDoor
open Go.AM

def K0 : FuncId → Option (List V → Option V) := fun f =>
  if Nat.beq f 257 then some eIdx else if Nat.beq f 127 then some eCmp else if Nat.beq f 232 then some eCnt else if Nat.beq f 110 then some eBits else if Nat.beq f 138 then some eFrom else none

set_option maxRecDepth 100000 in
theorem K0_ok : ∀ f Φ, K0 f = some Φ → PureC Tryz.prog f Φ := by
  intro f Φ h
  unfold K0 at h
  split at h
  · rename_i e; obtain rfl := Nat.eq_of_beq_eq_true e; obtain rfl := Option.some.inj h
    exact pure_extern (P := Tryz.prog) (f := 257) (g := Tryz.f257) Tryz.func257 (by kernel_rfl) (by kernel_rfl) (by kernel_rfl) (e := Extern.BytealgIndexByte.indexByte) (by kernel_rfl) entry_idx
  split at h
  · rename_i e; obtain rfl := Nat.eq_of_beq_eq_true e; obtain rfl := Option.some.inj h
    exact pure_extern (P := Tryz.prog) (f := 127) (g := Tryz.f127) Tryz.func127 (by kernel_rfl) (by kernel_rfl) (by kernel_rfl) (e := Extern.BytealgCompare.compare) (by kernel_rfl) entry_cmp
  split at h
  · rename_i e; obtain rfl := Nat.eq_of_beq_eq_true e; obtain rfl := Option.some.inj h
    exact pure_extern (P := Tryz.prog) (f := 232) (g := Tryz.f232) Tryz.func232 (by kernel_rfl) (by kernel_rfl) (by kernel_rfl) (e := Extern.BytealgCount.count) (by kernel_rfl) entry_cnt
  split at h
  · rename_i e; obtain rfl := Nat.eq_of_beq_eq_true e; obtain rfl := Option.some.inj h
    exact pure_extern (P := Tryz.prog) (f := 110) (g := Tryz.f110) Tryz.func110 (by kernel_rfl) (by kernel_rfl) (by kernel_rfl) (e := Extern.MathFloatBits.float64bits) (by kernel_rfl) entry_bits
  split at h
  · rename_i e; obtain rfl := Nat.eq_of_beq_eq_true e; obtain rfl := Option.some.inj h
    exact pure_extern (P := Tryz.prog) (f := 138) (g := Tryz.f138) Tryz.func138 (by kernel_rfl) (by kernel_rfl) (by kernel_rfl) (e := Extern.MathFloatBits.float64frombits) (by kernel_rfl) entry_from
  · cases h

def J0 : FuncId → Option (List V → Option V) := fun _ => none
theorem J0_ok : ∀ f Φ, J0 f = some Φ → PureC Tryz.prog f Φ := fun _ _ h => by cases h

end Go.Proofs.YtgfohimonbagmaaGreatDoor
