/- What functions of the program answer to data that are written down: closed runs, level 8. -/
import Derived.Test.YtgfohimonbagmaaGreatDoorC1T7
set_option maxRecDepth 100000
namespace Go.Proofs.YtgfohimonbagmaaGreatDoor
open Go.AM

def t5_0 : List (List V × V) := [
([(.int .i64 0), (.int .i64 (-2)), (.bool false)], (.bool true)),
([(.int .i64 0), (.int .i64 (-2)), (.bool true)], (.bool true)),
([(.int .i64 0), (.int .i64 (-1)), (.bool false)], (.bool true)),
([(.int .i64 0), (.int .i64 (-1)), (.bool true)], (.bool true)),
([(.int .i64 0), (.int .i64 0), (.bool false)], (.bool true)),
([(.int .i64 0), (.int .i64 0), (.bool true)], (.bool true)),
([(.int .i64 0), (.int .i64 1), (.bool false)], (.bool true)),
([(.int .i64 0), (.int .i64 1), (.bool true)], (.bool true)),
([(.int .i64 0), (.int .i64 2), (.bool false)], (.bool true)),
([(.int .i64 0), (.int .i64 2), (.bool true)], (.bool true)),
([(.int .i64 1), (.int .i64 (-2)), (.bool false)], (.bool true)),
([(.int .i64 1), (.int .i64 (-2)), (.bool true)], (.bool true)),
([(.int .i64 1), (.int .i64 (-1)), (.bool false)], (.bool true)),
([(.int .i64 1), (.int .i64 (-1)), (.bool true)], (.bool true)),
([(.int .i64 1), (.int .i64 0), (.bool false)], (.bool true)),
([(.int .i64 1), (.int .i64 0), (.bool true)], (.bool true)),
([(.int .i64 1), (.int .i64 1), (.bool false)], (.bool true)),
([(.int .i64 1), (.int .i64 1), (.bool true)], (.bool true)),
([(.int .i64 1), (.int .i64 2), (.bool false)], (.bool true)),
([(.int .i64 1), (.int .i64 2), (.bool true)], (.bool true)),
([(.int .i64 2), (.int .i64 (-2)), (.bool false)], (.bool true)),
([(.int .i64 2), (.int .i64 (-2)), (.bool true)], (.bool true)),
([(.int .i64 2), (.int .i64 (-1)), (.bool false)], (.bool true)),
([(.int .i64 2), (.int .i64 (-1)), (.bool true)], (.bool true)),
([(.int .i64 2), (.int .i64 0), (.bool false)], (.bool true)),
([(.int .i64 2), (.int .i64 0), (.bool true)], (.bool true)),
([(.int .i64 2), (.int .i64 1), (.bool false)], (.bool true)),
([(.int .i64 2), (.int .i64 1), (.bool true)], (.bool true)),
([(.int .i64 2), (.int .i64 2), (.bool false)], (.bool true)),
([(.int .i64 2), (.int .i64 2), (.bool true)], (.bool true)),
([(.int .i64 3), (.int .i64 (-2)), (.bool false)], (.bool true)),
([(.int .i64 3), (.int .i64 (-2)), (.bool true)], (.bool true)),
([(.int .i64 3), (.int .i64 (-1)), (.bool false)], (.bool true)),
([(.int .i64 3), (.int .i64 (-1)), (.bool true)], (.bool true)),
([(.int .i64 3), (.int .i64 0), (.bool false)], (.bool true)),
([(.int .i64 3), (.int .i64 0), (.bool true)], (.bool true)),
([(.int .i64 3), (.int .i64 1), (.bool false)], (.bool true)),
([(.int .i64 3), (.int .i64 1), (.bool true)], (.bool true)),
([(.int .i64 3), (.int .i64 2), (.bool false)], (.bool true)),
([(.int .i64 3), (.int .i64 2), (.bool true)], (.bool true)),
([(.int .i64 4), (.int .i64 (-2)), (.bool false)], (.bool true)),
([(.int .i64 4), (.int .i64 (-2)), (.bool true)], (.bool true)),
([(.int .i64 4), (.int .i64 (-1)), (.bool false)], (.bool true)),
([(.int .i64 4), (.int .i64 (-1)), (.bool true)], (.bool true)),
([(.int .i64 4), (.int .i64 0), (.bool false)], (.bool true)),
([(.int .i64 4), (.int .i64 0), (.bool true)], (.bool true)),
([(.int .i64 4), (.int .i64 1), (.bool false)], (.bool true)),
([(.int .i64 4), (.int .i64 1), (.bool true)], (.bool true)),
([(.int .i64 4), (.int .i64 2), (.bool false)], (.bool true)),
([(.int .i64 4), (.int .i64 2), (.bool true)], (.bool true)),
([(.int .i64 5), (.int .i64 (-2)), (.bool false)], (.bool true)),
([(.int .i64 5), (.int .i64 (-2)), (.bool true)], (.bool true)),
([(.int .i64 5), (.int .i64 (-1)), (.bool false)], (.bool true)),
([(.int .i64 5), (.int .i64 (-1)), (.bool true)], (.bool true)),
([(.int .i64 5), (.int .i64 0), (.bool false)], (.bool true)),
([(.int .i64 5), (.int .i64 0), (.bool true)], (.bool true)),
([(.int .i64 5), (.int .i64 1), (.bool false)], (.bool true)),
([(.int .i64 5), (.int .i64 1), (.bool true)], (.bool true)),
([(.int .i64 5), (.int .i64 2), (.bool false)], (.bool true)),
([(.int .i64 5), (.int .i64 2), (.bool true)], (.bool true)),
([(.int .i64 6), (.int .i64 (-2)), (.bool false)], (.bool true)),
([(.int .i64 6), (.int .i64 (-2)), (.bool true)], (.bool true)),
([(.int .i64 6), (.int .i64 (-1)), (.bool false)], (.bool true)),
([(.int .i64 6), (.int .i64 (-1)), (.bool true)], (.bool true)),
([(.int .i64 6), (.int .i64 0), (.bool false)], (.bool true)),
([(.int .i64 6), (.int .i64 0), (.bool true)], (.bool true)),
([(.int .i64 6), (.int .i64 1), (.bool false)], (.bool true)),
([(.int .i64 6), (.int .i64 1), (.bool true)], (.bool true)),
([(.int .i64 6), (.int .i64 2), (.bool false)], (.bool true)),
([(.int .i64 6), (.int .i64 2), (.bool true)], (.bool true)),
([(.int .i64 7), (.int .i64 (-2)), (.bool false)], (.bool true)),
([(.int .i64 7), (.int .i64 (-2)), (.bool true)], (.bool true)),
([(.int .i64 7), (.int .i64 (-1)), (.bool false)], (.bool true)),
([(.int .i64 7), (.int .i64 (-1)), (.bool true)], (.bool true)),
([(.int .i64 7), (.int .i64 0), (.bool false)], (.bool true)),
([(.int .i64 7), (.int .i64 0), (.bool true)], (.bool true)),
([(.int .i64 7), (.int .i64 1), (.bool false)], (.bool true)),
([(.int .i64 7), (.int .i64 1), (.bool true)], (.bool true)),
([(.int .i64 7), (.int .i64 2), (.bool false)], (.bool true)),
([(.int .i64 7), (.int .i64 2), (.bool true)], (.bool true))]
theorem k5_0 : chk Tryz.prog K0 J7 60 5 t5_0 = true := by kernel_rfl
def t5 : List (List V × V) := t5_0
theorem p5 : PureC Tryz.prog 5 (memo t5) := pure_memo K0_ok J7_ok (chk_mem k5_0)
def J8 : FuncId → Option (List V → Option V) := fun f => if Nat.beq f 5 then some (memo t5) else J7 f
theorem J8_ok : ∀ f Φ, J8 f = some Φ → PureC Tryz.prog f Φ := by
  intro f Φ h
  unfold J8 at h
  by_cases e5 : Nat.beq f 5 = true
  · rw [if_pos e5] at h; obtain rfl := Nat.eq_of_beq_eq_true e5; obtain rfl := Option.some.inj h; exact p5
  rw [if_neg e5] at h
  exact J7_ok f Φ h

end Go.Proofs.YtgfohimonbagmaaGreatDoor
