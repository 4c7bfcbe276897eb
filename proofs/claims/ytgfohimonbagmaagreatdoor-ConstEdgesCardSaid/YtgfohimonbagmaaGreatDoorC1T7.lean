/- What functions of the program answer to data that are written down: closed runs, level 7. -/
import Derived.Test.YtgfohimonbagmaaGreatDoorC1T6
set_option maxRecDepth 100000
namespace Go.Proofs.YtgfohimonbagmaaGreatDoor
open Go.AM

def t8_0 : List (List V × V) := [
([], (.bool true))]
theorem k8_0 : chk Tryz.prog K0 J6 60 8 t8_0 = true := by kernel_rfl
def t8 : List (List V × V) := t8_0
theorem p8 : PureC Tryz.prog 8 (memo t8) := pure_memo K0_ok J6_ok (chk_mem k8_0)
def J7 : FuncId → Option (List V → Option V) := fun f => if Nat.beq f 8 then some (memo t8) else J6 f
theorem J7_ok : ∀ f Φ, J7 f = some Φ → PureC Tryz.prog f Φ := by
  intro f Φ h
  unfold J7 at h
  by_cases e8 : Nat.beq f 8 = true
  · rw [if_pos e8] at h; obtain rfl := Nat.eq_of_beq_eq_true e8; obtain rfl := Option.some.inj h; exact p8
  rw [if_neg e8] at h
  exact J6_ok f Φ h

end Go.Proofs.YtgfohimonbagmaaGreatDoor
