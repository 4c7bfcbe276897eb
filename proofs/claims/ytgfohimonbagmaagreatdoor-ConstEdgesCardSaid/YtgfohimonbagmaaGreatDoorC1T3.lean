/- What functions of the program answer to data that are written down: closed runs, level 3. -/
import Derived.Test.YtgfohimonbagmaaGreatDoorC1T2
set_option maxRecDepth 100000
namespace Go.Proofs.YtgfohimonbagmaaGreatDoor
open Go.AM

def t84_0 : List (List V × V) := [
([(.agg [(.bool false), (.ints .u32 true [] (some 0)), (.bool false), (.ints .u32 true [] (some 0))])], (.agg [(.bool false), (.ints .u32 true [] (some 0)), (.bool false), (.ints .u32 false [1] none)])),
([(.agg [(.bool false), (.ints .u32 false [16] none), (.bool false), (.ints .u32 false [1] none)])], (.agg [(.bool false), (.ints .u32 false [16] none), (.bool false), (.ints .u32 false [1] none)])),
([(.agg [(.bool false), (.ints .u32 false [3] none), (.bool false), (.ints .u32 false [1] none)])], (.agg [(.bool false), (.ints .u32 false [3] none), (.bool false), (.ints .u32 false [1] none)])),
([(.agg [(.bool false), (.ints .u32 false [5] none), (.bool false), (.ints .u32 false [1] none)])], (.agg [(.bool false), (.ints .u32 false [5] none), (.bool false), (.ints .u32 false [1] none)])),
([(.agg [(.bool false), (.ints .u32 false [300] none), (.bool false), (.ints .u32 false [1] none)])], (.agg [(.bool false), (.ints .u32 false [300] none), (.bool false), (.ints .u32 false [1] none)])),
([(.agg [(.bool false), (.ints .u32 false [200] none), (.bool false), (.ints .u32 false [1] none)])], (.agg [(.bool false), (.ints .u32 false [200] none), (.bool false), (.ints .u32 false [1] none)])),
([(.agg [(.bool true), (.ints .u32 false [200] none), (.bool false), (.ints .u32 false [1] none)])], (.agg [(.bool true), (.ints .u32 false [200] none), (.bool false), (.ints .u32 false [1] none)])),
([(.agg [(.bool true), (.ints .u32 false [2, 2147483648] none), (.bool false), (.ints .u32 false [1] none)])], (.agg [(.bool true), (.ints .u32 false [2, 2147483648] none), (.bool false), (.ints .u32 false [1] none)])),
([(.agg [(.bool true), (.ints .u32 false [3, 0, 1] none), (.bool false), (.ints .u32 false [2] none)])], (.agg [(.bool true), (.ints .u32 false [3, 0, 1] none), (.bool false), (.ints .u32 false [2] none)])),
([(.agg [(.bool true), (.ints .u32 false [1, 2147483648] none), (.bool false), (.ints .u32 false [1] none)])], (.agg [(.bool true), (.ints .u32 false [1, 2147483648] none), (.bool false), (.ints .u32 false [1] none)])),
([(.agg [(.bool true), (.ints .u32 false [1, 0, 1] none), (.bool false), (.ints .u32 false [2] none)])], (.agg [(.bool true), (.ints .u32 false [1, 0, 1] none), (.bool false), (.ints .u32 false [2] none)])),
([(.agg [(.bool true), (.ints .u32 false [0, 2147483648] none), (.bool false), (.ints .u32 false [1] none)])], (.agg [(.bool true), (.ints .u32 false [0, 2147483648] none), (.bool false), (.ints .u32 false [1] none)])),
([(.agg [(.bool true), (.ints .u32 false [4294967295, 4294967295] none), (.bool false), (.ints .u32 false [2] none)])], (.agg [(.bool true), (.ints .u32 false [4294967295, 4294967295] none), (.bool false), (.ints .u32 false [2] none)])),
([(.agg [(.bool true), (.ints .u32 false [4294967295, 2147483647] none), (.bool false), (.ints .u32 false [1] none)])], (.agg [(.bool true), (.ints .u32 false [4294967295, 2147483647] none), (.bool false), (.ints .u32 false [1] none)])),
([(.agg [(.bool true), (.ints .u32 false [4294967293, 4294967295] none), (.bool false), (.ints .u32 false [2] none)])], (.agg [(.bool true), (.ints .u32 false [4294967293, 4294967295] none), (.bool false), (.ints .u32 false [2] none)])),
([(.agg [(.bool true), (.ints .u32 false [4294967294, 2147483647] none), (.bool false), (.ints .u32 false [1] none)])], (.agg [(.bool true), (.ints .u32 false [4294967294, 2147483647] none), (.bool false), (.ints .u32 false [1] none)])),
([(.agg [(.bool true), (.ints .u32 false [4294967291, 4294967295] none), (.bool false), (.ints .u32 false [2] none)])], (.agg [(.bool true), (.ints .u32 false [4294967291, 4294967295] none), (.bool false), (.ints .u32 false [2] none)])),
([(.agg [(.bool true), (.ints .u32 false [130] none), (.bool false), (.ints .u32 false [1] none)])], (.agg [(.bool true), (.ints .u32 false [130] none), (.bool false), (.ints .u32 false [1] none)])),
([(.agg [(.bool true), (.ints .u32 false [259] none), (.bool false), (.ints .u32 false [2] none)])], (.agg [(.bool true), (.ints .u32 false [259] none), (.bool false), (.ints .u32 false [2] none)])),
([(.agg [(.bool true), (.ints .u32 false [129] none), (.bool false), (.ints .u32 false [1] none)])], (.agg [(.bool true), (.ints .u32 false [129] none), (.bool false), (.ints .u32 false [1] none)])),
([(.agg [(.bool true), (.ints .u32 false [257] none), (.bool false), (.ints .u32 false [2] none)])], (.agg [(.bool true), (.ints .u32 false [257] none), (.bool false), (.ints .u32 false [2] none)])),
([(.agg [(.bool true), (.ints .u32 false [128] none), (.bool false), (.ints .u32 false [1] none)])], (.agg [(.bool true), (.ints .u32 false [128] none), (.bool false), (.ints .u32 false [1] none)])),
([(.agg [(.bool true), (.ints .u32 false [255] none), (.bool false), (.ints .u32 false [2] none)])], (.agg [(.bool true), (.ints .u32 false [255] none), (.bool false), (.ints .u32 false [2] none)])),
([(.agg [(.bool true), (.ints .u32 false [127] none), (.bool false), (.ints .u32 false [1] none)])], (.agg [(.bool true), (.ints .u32 false [127] none), (.bool false), (.ints .u32 false [1] none)])),
([(.agg [(.bool true), (.ints .u32 false [253] none), (.bool false), (.ints .u32 false [2] none)])], (.agg [(.bool true), (.ints .u32 false [253] none), (.bool false), (.ints .u32 false [2] none)])),
([(.agg [(.bool true), (.ints .u32 false [126] none), (.bool false), (.ints .u32 false [1] none)])], (.agg [(.bool true), (.ints .u32 false [126] none), (.bool false), (.ints .u32 false [1] none)])),
([(.agg [(.bool true), (.ints .u32 false [251] none), (.bool false), (.ints .u32 false [2] none)])], (.agg [(.bool true), (.ints .u32 false [251] none), (.bool false), (.ints .u32 false [2] none)])),
([(.agg [(.bool true), (.ints .u32 false [2] none), (.bool false), (.ints .u32 false [1] none)])], (.agg [(.bool true), (.ints .u32 false [2] none), (.bool false), (.ints .u32 false [1] none)])),
([(.agg [(.bool true), (.ints .u32 false [3] none), (.bool false), (.ints .u32 false [2] none)])], (.agg [(.bool true), (.ints .u32 false [3] none), (.bool false), (.ints .u32 false [2] none)])),
([(.agg [(.bool true), (.ints .u32 false [1] none), (.bool false), (.ints .u32 false [1] none)])], (.agg [(.bool true), (.ints .u32 false [1] none), (.bool false), (.ints .u32 false [1] none)])),
([(.agg [(.bool true), (.ints .u32 false [1] none), (.bool false), (.ints .u32 false [2] none)])], (.agg [(.bool true), (.ints .u32 false [1] none), (.bool false), (.ints .u32 false [2] none)])),
([(.agg [(.bool false), (.ints .u32 true [] (some 0)), (.bool false), (.ints .u32 false [1] none)])], (.agg [(.bool false), (.ints .u32 true [] (some 0)), (.bool false), (.ints .u32 false [1] none)])),
([(.agg [(.bool false), (.ints .u32 false [1] none), (.bool false), (.ints .u32 false [2] none)])], (.agg [(.bool false), (.ints .u32 false [1] none), (.bool false), (.ints .u32 false [2] none)])),
([(.agg [(.bool false), (.ints .u32 false [1] none), (.bool false), (.ints .u32 false [1] none)])], (.agg [(.bool false), (.ints .u32 false [1] none), (.bool false), (.ints .u32 false [1] none)])),
([(.agg [(.bool false), (.ints .u32 false [3] none), (.bool false), (.ints .u32 false [2] none)])], (.agg [(.bool false), (.ints .u32 false [3] none), (.bool false), (.ints .u32 false [2] none)])),
([(.agg [(.bool false), (.ints .u32 false [2] none), (.bool false), (.ints .u32 false [1] none)])], (.agg [(.bool false), (.ints .u32 false [2] none), (.bool false), (.ints .u32 false [1] none)])),
([(.agg [(.bool false), (.ints .u32 false [5] none), (.bool false), (.ints .u32 false [2] none)])], (.agg [(.bool false), (.ints .u32 false [5] none), (.bool false), (.ints .u32 false [2] none)])),
([(.agg [(.bool false), (.ints .u32 false [4294967293, 2147483647] none), (.bool false), (.ints .u32 false [1] none)])], (.agg [(.bool false), (.ints .u32 false [4294967293, 2147483647] none), (.bool false), (.ints .u32 false [1] none)])),
([(.agg [(.bool false), (.ints .u32 false [4294967291, 4294967295] none), (.bool false), (.ints .u32 false [2] none)])], (.agg [(.bool false), (.ints .u32 false [4294967291, 4294967295] none), (.bool false), (.ints .u32 false [2] none)])),
([(.agg [(.bool false), (.ints .u32 false [4294967294, 2147483647] none), (.bool false), (.ints .u32 false [1] none)])], (.agg [(.bool false), (.ints .u32 false [4294967294, 2147483647] none), (.bool false), (.ints .u32 false [1] none)])),
([(.agg [(.bool false), (.ints .u32 false [4294967293, 4294967295] none), (.bool false), (.ints .u32 false [2] none)])], (.agg [(.bool false), (.ints .u32 false [4294967293, 4294967295] none), (.bool false), (.ints .u32 false [2] none)])),
([(.agg [(.bool false), (.ints .u32 false [4294967295, 2147483647] none), (.bool false), (.ints .u32 false [1] none)])], (.agg [(.bool false), (.ints .u32 false [4294967295, 2147483647] none), (.bool false), (.ints .u32 false [1] none)])),
([(.agg [(.bool false), (.ints .u32 false [4294967295, 4294967295] none), (.bool false), (.ints .u32 false [2] none)])], (.agg [(.bool false), (.ints .u32 false [4294967295, 4294967295] none), (.bool false), (.ints .u32 false [2] none)])),
([(.agg [(.bool false), (.ints .u32 false [0, 2147483648] none), (.bool false), (.ints .u32 false [1] none)])], (.agg [(.bool false), (.ints .u32 false [0, 2147483648] none), (.bool false), (.ints .u32 false [1] none)])),
([(.agg [(.bool false), (.ints .u32 false [1, 0, 1] none), (.bool false), (.ints .u32 false [2] none)])], (.agg [(.bool false), (.ints .u32 false [1, 0, 1] none), (.bool false), (.ints .u32 false [2] none)])),
([(.agg [(.bool false), (.ints .u32 false [1, 2147483648] none), (.bool false), (.ints .u32 false [1] none)])], (.agg [(.bool false), (.ints .u32 false [1, 2147483648] none), (.bool false), (.ints .u32 false [1] none)])),
([(.agg [(.bool false), (.ints .u32 false [3, 0, 1] none), (.bool false), (.ints .u32 false [2] none)])], (.agg [(.bool false), (.ints .u32 false [3, 0, 1] none), (.bool false), (.ints .u32 false [2] none)])),
([(.agg [(.bool false), (.ints .u32 false [125] none), (.bool false), (.ints .u32 false [1] none)])], (.agg [(.bool false), (.ints .u32 false [125] none), (.bool false), (.ints .u32 false [1] none)])),
([(.agg [(.bool false), (.ints .u32 false [251] none), (.bool false), (.ints .u32 false [2] none)])], (.agg [(.bool false), (.ints .u32 false [251] none), (.bool false), (.ints .u32 false [2] none)])),
([(.agg [(.bool false), (.ints .u32 false [126] none), (.bool false), (.ints .u32 false [1] none)])], (.agg [(.bool false), (.ints .u32 false [126] none), (.bool false), (.ints .u32 false [1] none)])),
([(.agg [(.bool false), (.ints .u32 false [253] none), (.bool false), (.ints .u32 false [2] none)])], (.agg [(.bool false), (.ints .u32 false [253] none), (.bool false), (.ints .u32 false [2] none)])),
([(.agg [(.bool false), (.ints .u32 false [127] none), (.bool false), (.ints .u32 false [1] none)])], (.agg [(.bool false), (.ints .u32 false [127] none), (.bool false), (.ints .u32 false [1] none)])),
([(.agg [(.bool false), (.ints .u32 false [255] none), (.bool false), (.ints .u32 false [2] none)])], (.agg [(.bool false), (.ints .u32 false [255] none), (.bool false), (.ints .u32 false [2] none)])),
([(.agg [(.bool false), (.ints .u32 false [128] none), (.bool false), (.ints .u32 false [1] none)])], (.agg [(.bool false), (.ints .u32 false [128] none), (.bool false), (.ints .u32 false [1] none)])),
([(.agg [(.bool false), (.ints .u32 false [257] none), (.bool false), (.ints .u32 false [2] none)])], (.agg [(.bool false), (.ints .u32 false [257] none), (.bool false), (.ints .u32 false [2] none)])),
([(.agg [(.bool false), (.ints .u32 false [129] none), (.bool false), (.ints .u32 false [1] none)])], (.agg [(.bool false), (.ints .u32 false [129] none), (.bool false), (.ints .u32 false [1] none)])),
([(.agg [(.bool false), (.ints .u32 false [259] none), (.bool false), (.ints .u32 false [2] none)])], (.agg [(.bool false), (.ints .u32 false [259] none), (.bool false), (.ints .u32 false [2] none)])),
([(.agg [(.bool false), (.ints .u32 false [253] none), (.bool false), (.ints .u32 false [1] none)])], (.agg [(.bool false), (.ints .u32 false [253] none), (.bool false), (.ints .u32 false [1] none)])),
([(.agg [(.bool false), (.ints .u32 false [507] none), (.bool false), (.ints .u32 false [2] none)])], (.agg [(.bool false), (.ints .u32 false [507] none), (.bool false), (.ints .u32 false [2] none)])),
([(.agg [(.bool false), (.ints .u32 false [254] none), (.bool false), (.ints .u32 false [1] none)])], (.agg [(.bool false), (.ints .u32 false [254] none), (.bool false), (.ints .u32 false [1] none)])),
([(.agg [(.bool false), (.ints .u32 false [509] none), (.bool false), (.ints .u32 false [2] none)])], (.agg [(.bool false), (.ints .u32 false [509] none), (.bool false), (.ints .u32 false [2] none)])),
([(.agg [(.bool false), (.ints .u32 false [255] none), (.bool false), (.ints .u32 false [1] none)])], (.agg [(.bool false), (.ints .u32 false [255] none), (.bool false), (.ints .u32 false [1] none)])),
([(.agg [(.bool false), (.ints .u32 false [511] none), (.bool false), (.ints .u32 false [2] none)])], (.agg [(.bool false), (.ints .u32 false [511] none), (.bool false), (.ints .u32 false [2] none)])),
([(.agg [(.bool false), (.ints .u32 false [256] none), (.bool false), (.ints .u32 false [1] none)])], (.agg [(.bool false), (.ints .u32 false [256] none), (.bool false), (.ints .u32 false [1] none)])),
([(.agg [(.bool false), (.ints .u32 false [513] none), (.bool false), (.ints .u32 false [2] none)])], (.agg [(.bool false), (.ints .u32 false [513] none), (.bool false), (.ints .u32 false [2] none)])),
([(.agg [(.bool false), (.ints .u32 false [257] none), (.bool false), (.ints .u32 false [1] none)])], (.agg [(.bool false), (.ints .u32 false [257] none), (.bool false), (.ints .u32 false [1] none)])),
([(.agg [(.bool false), (.ints .u32 false [515] none), (.bool false), (.ints .u32 false [2] none)])], (.agg [(.bool false), (.ints .u32 false [515] none), (.bool false), (.ints .u32 false [2] none)])),
([(.agg [(.bool false), (.ints .u32 false [4294967293, 4294967295] none), (.bool false), (.ints .u32 false [1] none)])], (.agg [(.bool false), (.ints .u32 false [4294967293, 4294967295] none), (.bool false), (.ints .u32 false [1] none)])),
([(.agg [(.bool false), (.ints .u32 false [4294967291, 4294967295, 1] none), (.bool false), (.ints .u32 false [2] none)])], (.agg [(.bool false), (.ints .u32 false [4294967291, 4294967295, 1] none), (.bool false), (.ints .u32 false [2] none)])),
([(.agg [(.bool false), (.ints .u32 false [4294967294, 4294967295] none), (.bool false), (.ints .u32 false [1] none)])], (.agg [(.bool false), (.ints .u32 false [4294967294, 4294967295] none), (.bool false), (.ints .u32 false [1] none)])),
([(.agg [(.bool false), (.ints .u32 false [4294967293, 4294967295, 1] none), (.bool false), (.ints .u32 false [2] none)])], (.agg [(.bool false), (.ints .u32 false [4294967293, 4294967295, 1] none), (.bool false), (.ints .u32 false [2] none)])),
([(.agg [(.bool false), (.ints .u32 false [4294967295, 4294967295] none), (.bool false), (.ints .u32 false [1] none)])], (.agg [(.bool false), (.ints .u32 false [4294967295, 4294967295] none), (.bool false), (.ints .u32 false [1] none)])),
([(.agg [(.bool false), (.ints .u32 false [4294967295, 4294967295, 1] none), (.bool false), (.ints .u32 false [2] none)])], (.agg [(.bool false), (.ints .u32 false [4294967295, 4294967295, 1] none), (.bool false), (.ints .u32 false [2] none)])),
([(.agg [(.bool false), (.ints .u32 false [0, 0, 1] none), (.bool false), (.ints .u32 false [1] none)])], (.agg [(.bool false), (.ints .u32 false [0, 0, 1] none), (.bool false), (.ints .u32 false [1] none)])),
([(.agg [(.bool false), (.ints .u32 false [1, 0, 2] none), (.bool false), (.ints .u32 false [2] none)])], (.agg [(.bool false), (.ints .u32 false [1, 0, 2] none), (.bool false), (.ints .u32 false [2] none)])),
([(.agg [(.bool false), (.ints .u32 false [1, 0, 1] none), (.bool false), (.ints .u32 false [1] none)])], (.agg [(.bool false), (.ints .u32 false [1, 0, 1] none), (.bool false), (.ints .u32 false [1] none)])),
([(.agg [(.bool false), (.ints .u32 false [3, 0, 2] none), (.bool false), (.ints .u32 false [2] none)])], (.agg [(.bool false), (.ints .u32 false [3, 0, 2] none), (.bool false), (.ints .u32 false [2] none)]))]
theorem k84_0 : chk Tryz.prog K0 J2 60 84 t84_0 = true := by kernel_rfl
def t84 : List (List V × V) := t84_0
theorem p84 : PureC Tryz.prog 84 (memo t84) := pure_memo K0_ok J2_ok (chk_mem k84_0)
def J3 : FuncId → Option (List V → Option V) := fun f => if Nat.beq f 84 then some (memo t84) else J2 f
theorem J3_ok : ∀ f Φ, J3 f = some Φ → PureC Tryz.prog f Φ := by
  intro f Φ h
  unfold J3 at h
  by_cases e84 : Nat.beq f 84 = true
  · rw [if_pos e84] at h; obtain rfl := Nat.eq_of_beq_eq_true e84; obtain rfl := Option.some.inj h; exact p84
  rw [if_neg e84] at h
  exact J2_ok f Φ h

end Go.Proofs.YtgfohimonbagmaaGreatDoor
