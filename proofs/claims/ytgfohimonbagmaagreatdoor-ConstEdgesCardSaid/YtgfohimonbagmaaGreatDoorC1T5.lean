/- What functions of the program answer to data that are written down: closed runs, level 5. -/
import Derived.Test.YtgfohimonbagmaaGreatDoorC1T4
set_option maxRecDepth 100000
namespace Go.Proofs.YtgfohimonbagmaaGreatDoor
open Go.AM

def t36_0 : List (List V × V) := [
([(.agg [(.int .i64 3), (.bool false), (.str []), (.bool false), (.ints .u32 false [16] none), (.bool false), (.ints .u32 false [1] none)])], (.bool true)),
([(.agg [(.int .i64 3), (.bool false), (.str []), (.bool false), (.ints .u32 false [3] none), (.bool false), (.ints .u32 false [1] none)])], (.bool true)),
([(.agg [(.int .i64 3), (.bool false), (.str []), (.bool false), (.ints .u32 false [5] none), (.bool false), (.ints .u32 false [1] none)])], (.bool true)),
([(.agg [(.int .i64 3), (.bool false), (.str []), (.bool false), (.ints .u32 false [300] none), (.bool false), (.ints .u32 false [1] none)])], (.bool true)),
([(.agg [(.int .i64 3), (.bool false), (.str []), (.bool false), (.ints .u32 false [200] none), (.bool false), (.ints .u32 false [1] none)])], (.bool true)),
([(.agg [(.int .i64 3), (.bool false), (.str []), (.bool true), (.ints .u32 false [200] none), (.bool false), (.ints .u32 false [1] none)])], (.bool true)),
([(.agg [(.int .i64 3), (.bool false), (.str []), (.bool true), (.ints .u32 false [2, 2147483648] none), (.bool false), (.ints .u32 false [1] none)])], (.bool true)),
([(.agg [(.int .i64 4), (.bool false), (.str []), (.bool true), (.ints .u32 false [3, 0, 1] none), (.bool false), (.ints .u32 false [2] none)])], (.bool true)),
([(.agg [(.int .i64 3), (.bool false), (.str []), (.bool true), (.ints .u32 false [1, 2147483648] none), (.bool false), (.ints .u32 false [1] none)])], (.bool true)),
([(.agg [(.int .i64 4), (.bool false), (.str []), (.bool true), (.ints .u32 false [1, 0, 1] none), (.bool false), (.ints .u32 false [2] none)])], (.bool true)),
([(.agg [(.int .i64 3), (.bool false), (.str []), (.bool true), (.ints .u32 false [0, 2147483648] none), (.bool false), (.ints .u32 false [1] none)])], (.bool true)),
([(.agg [(.int .i64 4), (.bool false), (.str []), (.bool true), (.ints .u32 false [4294967295, 4294967295] none), (.bool false), (.ints .u32 false [2] none)])], (.bool true)),
([(.agg [(.int .i64 3), (.bool false), (.str []), (.bool true), (.ints .u32 false [4294967295, 2147483647] none), (.bool false), (.ints .u32 false [1] none)])], (.bool true)),
([(.agg [(.int .i64 4), (.bool false), (.str []), (.bool true), (.ints .u32 false [4294967293, 4294967295] none), (.bool false), (.ints .u32 false [2] none)])], (.bool true)),
([(.agg [(.int .i64 3), (.bool false), (.str []), (.bool true), (.ints .u32 false [4294967294, 2147483647] none), (.bool false), (.ints .u32 false [1] none)])], (.bool true)),
([(.agg [(.int .i64 4), (.bool false), (.str []), (.bool true), (.ints .u32 false [4294967291, 4294967295] none), (.bool false), (.ints .u32 false [2] none)])], (.bool true)),
([(.agg [(.int .i64 3), (.bool false), (.str []), (.bool true), (.ints .u32 false [130] none), (.bool false), (.ints .u32 false [1] none)])], (.bool true)),
([(.agg [(.int .i64 4), (.bool false), (.str []), (.bool true), (.ints .u32 false [259] none), (.bool false), (.ints .u32 false [2] none)])], (.bool true)),
([(.agg [(.int .i64 3), (.bool false), (.str []), (.bool true), (.ints .u32 false [129] none), (.bool false), (.ints .u32 false [1] none)])], (.bool true)),
([(.agg [(.int .i64 4), (.bool false), (.str []), (.bool true), (.ints .u32 false [257] none), (.bool false), (.ints .u32 false [2] none)])], (.bool true)),
([(.agg [(.int .i64 3), (.bool false), (.str []), (.bool true), (.ints .u32 false [128] none), (.bool false), (.ints .u32 false [1] none)])], (.bool true)),
([(.agg [(.int .i64 4), (.bool false), (.str []), (.bool true), (.ints .u32 false [255] none), (.bool false), (.ints .u32 false [2] none)])], (.bool true)),
([(.agg [(.int .i64 3), (.bool false), (.str []), (.bool true), (.ints .u32 false [127] none), (.bool false), (.ints .u32 false [1] none)])], (.bool true)),
([(.agg [(.int .i64 4), (.bool false), (.str []), (.bool true), (.ints .u32 false [253] none), (.bool false), (.ints .u32 false [2] none)])], (.bool true)),
([(.agg [(.int .i64 3), (.bool false), (.str []), (.bool true), (.ints .u32 false [126] none), (.bool false), (.ints .u32 false [1] none)])], (.bool true)),
([(.agg [(.int .i64 4), (.bool false), (.str []), (.bool true), (.ints .u32 false [251] none), (.bool false), (.ints .u32 false [2] none)])], (.bool true)),
([(.agg [(.int .i64 3), (.bool false), (.str []), (.bool true), (.ints .u32 false [2] none), (.bool false), (.ints .u32 false [1] none)])], (.bool true)),
([(.agg [(.int .i64 4), (.bool false), (.str []), (.bool true), (.ints .u32 false [3] none), (.bool false), (.ints .u32 false [2] none)])], (.bool true)),
([(.agg [(.int .i64 3), (.bool false), (.str []), (.bool true), (.ints .u32 false [1] none), (.bool false), (.ints .u32 false [1] none)])], (.bool true)),
([(.agg [(.int .i64 4), (.bool false), (.str []), (.bool true), (.ints .u32 false [1] none), (.bool false), (.ints .u32 false [2] none)])], (.bool true)),
([(.agg [(.int .i64 3), (.bool false), (.str []), (.bool false), (.ints .u32 true [] (some 0)), (.bool false), (.ints .u32 false [1] none)])], (.bool true)),
([(.agg [(.int .i64 4), (.bool false), (.str []), (.bool false), (.ints .u32 false [1] none), (.bool false), (.ints .u32 false [2] none)])], (.bool true)),
([(.agg [(.int .i64 3), (.bool false), (.str []), (.bool false), (.ints .u32 false [1] none), (.bool false), (.ints .u32 false [1] none)])], (.bool true)),
([(.agg [(.int .i64 4), (.bool false), (.str []), (.bool false), (.ints .u32 false [3] none), (.bool false), (.ints .u32 false [2] none)])], (.bool true)),
([(.agg [(.int .i64 3), (.bool false), (.str []), (.bool false), (.ints .u32 false [2] none), (.bool false), (.ints .u32 false [1] none)])], (.bool true)),
([(.agg [(.int .i64 4), (.bool false), (.str []), (.bool false), (.ints .u32 false [5] none), (.bool false), (.ints .u32 false [2] none)])], (.bool true)),
([(.agg [(.int .i64 3), (.bool false), (.str []), (.bool false), (.ints .u32 false [4294967293, 2147483647] none), (.bool false), (.ints .u32 false [1] none)])], (.bool true)),
([(.agg [(.int .i64 4), (.bool false), (.str []), (.bool false), (.ints .u32 false [4294967291, 4294967295] none), (.bool false), (.ints .u32 false [2] none)])], (.bool true)),
([(.agg [(.int .i64 3), (.bool false), (.str []), (.bool false), (.ints .u32 false [4294967294, 2147483647] none), (.bool false), (.ints .u32 false [1] none)])], (.bool true)),
([(.agg [(.int .i64 4), (.bool false), (.str []), (.bool false), (.ints .u32 false [4294967293, 4294967295] none), (.bool false), (.ints .u32 false [2] none)])], (.bool true)),
([(.agg [(.int .i64 3), (.bool false), (.str []), (.bool false), (.ints .u32 false [4294967295, 2147483647] none), (.bool false), (.ints .u32 false [1] none)])], (.bool true)),
([(.agg [(.int .i64 4), (.bool false), (.str []), (.bool false), (.ints .u32 false [4294967295, 4294967295] none), (.bool false), (.ints .u32 false [2] none)])], (.bool true)),
([(.agg [(.int .i64 3), (.bool false), (.str []), (.bool false), (.ints .u32 false [0, 2147483648] none), (.bool false), (.ints .u32 false [1] none)])], (.bool true)),
([(.agg [(.int .i64 4), (.bool false), (.str []), (.bool false), (.ints .u32 false [1, 0, 1] none), (.bool false), (.ints .u32 false [2] none)])], (.bool true)),
([(.agg [(.int .i64 3), (.bool false), (.str []), (.bool false), (.ints .u32 false [1, 2147483648] none), (.bool false), (.ints .u32 false [1] none)])], (.bool true)),
([(.agg [(.int .i64 4), (.bool false), (.str []), (.bool false), (.ints .u32 false [3, 0, 1] none), (.bool false), (.ints .u32 false [2] none)])], (.bool true)),
([(.agg [(.int .i64 3), (.bool false), (.str []), (.bool false), (.ints .u32 false [125] none), (.bool false), (.ints .u32 false [1] none)])], (.bool true)),
([(.agg [(.int .i64 4), (.bool false), (.str []), (.bool false), (.ints .u32 false [251] none), (.bool false), (.ints .u32 false [2] none)])], (.bool true)),
([(.agg [(.int .i64 3), (.bool false), (.str []), (.bool false), (.ints .u32 false [126] none), (.bool false), (.ints .u32 false [1] none)])], (.bool true)),
([(.agg [(.int .i64 4), (.bool false), (.str []), (.bool false), (.ints .u32 false [253] none), (.bool false), (.ints .u32 false [2] none)])], (.bool true)),
([(.agg [(.int .i64 3), (.bool false), (.str []), (.bool false), (.ints .u32 false [127] none), (.bool false), (.ints .u32 false [1] none)])], (.bool true)),
([(.agg [(.int .i64 4), (.bool false), (.str []), (.bool false), (.ints .u32 false [255] none), (.bool false), (.ints .u32 false [2] none)])], (.bool true)),
([(.agg [(.int .i64 3), (.bool false), (.str []), (.bool false), (.ints .u32 false [128] none), (.bool false), (.ints .u32 false [1] none)])], (.bool true)),
([(.agg [(.int .i64 4), (.bool false), (.str []), (.bool false), (.ints .u32 false [257] none), (.bool false), (.ints .u32 false [2] none)])], (.bool true)),
([(.agg [(.int .i64 3), (.bool false), (.str []), (.bool false), (.ints .u32 false [129] none), (.bool false), (.ints .u32 false [1] none)])], (.bool true)),
([(.agg [(.int .i64 4), (.bool false), (.str []), (.bool false), (.ints .u32 false [259] none), (.bool false), (.ints .u32 false [2] none)])], (.bool true)),
([(.agg [(.int .i64 3), (.bool false), (.str []), (.bool false), (.ints .u32 false [253] none), (.bool false), (.ints .u32 false [1] none)])], (.bool true)),
([(.agg [(.int .i64 4), (.bool false), (.str []), (.bool false), (.ints .u32 false [507] none), (.bool false), (.ints .u32 false [2] none)])], (.bool true)),
([(.agg [(.int .i64 3), (.bool false), (.str []), (.bool false), (.ints .u32 false [254] none), (.bool false), (.ints .u32 false [1] none)])], (.bool true)),
([(.agg [(.int .i64 4), (.bool false), (.str []), (.bool false), (.ints .u32 false [509] none), (.bool false), (.ints .u32 false [2] none)])], (.bool true)),
([(.agg [(.int .i64 3), (.bool false), (.str []), (.bool false), (.ints .u32 false [255] none), (.bool false), (.ints .u32 false [1] none)])], (.bool true)),
([(.agg [(.int .i64 4), (.bool false), (.str []), (.bool false), (.ints .u32 false [511] none), (.bool false), (.ints .u32 false [2] none)])], (.bool true)),
([(.agg [(.int .i64 3), (.bool false), (.str []), (.bool false), (.ints .u32 false [256] none), (.bool false), (.ints .u32 false [1] none)])], (.bool true)),
([(.agg [(.int .i64 4), (.bool false), (.str []), (.bool false), (.ints .u32 false [513] none), (.bool false), (.ints .u32 false [2] none)])], (.bool true)),
([(.agg [(.int .i64 3), (.bool false), (.str []), (.bool false), (.ints .u32 false [257] none), (.bool false), (.ints .u32 false [1] none)])], (.bool true)),
([(.agg [(.int .i64 4), (.bool false), (.str []), (.bool false), (.ints .u32 false [515] none), (.bool false), (.ints .u32 false [2] none)])], (.bool true)),
([(.agg [(.int .i64 3), (.bool false), (.str []), (.bool false), (.ints .u32 false [4294967293, 4294967295] none), (.bool false), (.ints .u32 false [1] none)])], (.bool true)),
([(.agg [(.int .i64 4), (.bool false), (.str []), (.bool false), (.ints .u32 false [4294967291, 4294967295, 1] none), (.bool false), (.ints .u32 false [2] none)])], (.bool true)),
([(.agg [(.int .i64 3), (.bool false), (.str []), (.bool false), (.ints .u32 false [4294967294, 4294967295] none), (.bool false), (.ints .u32 false [1] none)])], (.bool true)),
([(.agg [(.int .i64 4), (.bool false), (.str []), (.bool false), (.ints .u32 false [4294967293, 4294967295, 1] none), (.bool false), (.ints .u32 false [2] none)])], (.bool true)),
([(.agg [(.int .i64 3), (.bool false), (.str []), (.bool false), (.ints .u32 false [4294967295, 4294967295] none), (.bool false), (.ints .u32 false [1] none)])], (.bool true)),
([(.agg [(.int .i64 4), (.bool false), (.str []), (.bool false), (.ints .u32 false [4294967295, 4294967295, 1] none), (.bool false), (.ints .u32 false [2] none)])], (.bool true)),
([(.agg [(.int .i64 3), (.bool false), (.str []), (.bool false), (.ints .u32 false [0, 0, 1] none), (.bool false), (.ints .u32 false [1] none)])], (.bool true)),
([(.agg [(.int .i64 4), (.bool false), (.str []), (.bool false), (.ints .u32 false [1, 0, 2] none), (.bool false), (.ints .u32 false [2] none)])], (.bool true)),
([(.agg [(.int .i64 3), (.bool false), (.str []), (.bool false), (.ints .u32 false [1, 0, 1] none), (.bool false), (.ints .u32 false [1] none)])], (.bool true)),
([(.agg [(.int .i64 4), (.bool false), (.str []), (.bool false), (.ints .u32 false [3, 0, 2] none), (.bool false), (.ints .u32 false [2] none)])], (.bool true))]
theorem k36_0 : chk Tryz.prog K0 J4 60 36 t36_0 = true := by kernel_rfl
def t36 : List (List V × V) := t36_0
theorem p36 : PureC Tryz.prog 36 (memo t36) := pure_memo K0_ok J4_ok (chk_mem k36_0)
def t47_0 : List (List V × V) := [
([(.str [117, 105, 110, 116, 56])], (.tup [(.agg [(.bool false), (.ints .u32 true [] (some 0))]), (.agg [(.bool false), (.ints .u32 false [255] none)]), (.bool true)])),
([(.str [105, 110, 116])], (.tup [(.agg [(.bool true), (.ints .u32 false [0, 2147483648] none)]), (.agg [(.bool false), (.ints .u32 false [4294967295, 2147483647] none)]), (.bool true)])),
([(.str [105, 110, 116, 56])], (.tup [(.agg [(.bool true), (.ints .u32 false [128] none)]), (.agg [(.bool false), (.ints .u32 false [127] none)]), (.bool true)])),
([(.str [117, 105, 110, 116])], (.tup [(.agg [(.bool false), (.ints .u32 true [] (some 0))]), (.agg [(.bool false), (.ints .u32 false [4294967295, 4294967295] none)]), (.bool true)]))]
theorem k47_0 : chk Tryz.prog K0 J4 60 47 t47_0 = true := by kernel_rfl
def t47 : List (List V × V) := t47_0
theorem p47 : PureC Tryz.prog 47 (memo t47) := pure_memo K0_ok J4_ok (chk_mem k47_0)
def J5 : FuncId → Option (List V → Option V) := fun f => if Nat.beq f 36 then some (memo t36) else if Nat.beq f 47 then some (memo t47) else J4 f
theorem J5_ok : ∀ f Φ, J5 f = some Φ → PureC Tryz.prog f Φ := by
  intro f Φ h
  unfold J5 at h
  by_cases e36 : Nat.beq f 36 = true
  · rw [if_pos e36] at h; obtain rfl := Nat.eq_of_beq_eq_true e36; obtain rfl := Option.some.inj h; exact p36
  rw [if_neg e36] at h
  by_cases e47 : Nat.beq f 47 = true
  · rw [if_pos e47] at h; obtain rfl := Nat.eq_of_beq_eq_true e47; obtain rfl := Option.some.inj h; exact p47
  rw [if_neg e47] at h
  exact J4_ok f Φ h

end Go.Proofs.YtgfohimonbagmaaGreatDoor
