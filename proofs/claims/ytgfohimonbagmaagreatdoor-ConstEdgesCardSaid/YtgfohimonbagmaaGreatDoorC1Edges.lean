/- ConstEdges: whatever the three arguments, the call answers true. -/
import Derived.Test.YtgfohimonbagmaaGreatDoorC1T8
import Derived.Test.YtgfohimonbagmaaGreatDoorAMStep
set_option maxRecDepth 100000
namespace Go.Proofs.YtgfohimonbagmaaGreatDoor
open Go.AM

noncomputable def T7 : Tab := tabP Tryz.prog K0 J7

def edgesC (rest : C) : C :=
 (.seq
  (.reg [
    ⟨(some 6), .mv (.c (.bool false)), none⟩])
  (.seq
   (.reg [
     ⟨(some 22), .call 8 [], none⟩,
     ⟨(some 7), .mv (.t 22), none⟩])
   (.seq
    (.reg [
      ⟨(some 23), .bslice 1 4 [(.str []), (.str []), (.str []), (.str [])] none [(0, 1, (.c (.str [105, 110, 116]))), (1, 1, (.c (.str [105, 110, 116, 56]))), (2, 1, (.c (.str [117, 105, 110, 116, 56]))), (3, 1, (.c (.str [117, 105, 110, 116])))], none⟩,
      ⟨(some 8), .mv (.t 23), none⟩])
    (.seq
     (.seq
      (.reg [
        ⟨(some 24), .mv (.t 0), none⟩,
        ⟨(some 25), .bin .lss .scalar (.t 24) (.c (.int .i64 0)), none⟩,
        ⟨(some 26), .mv (.t 25), none⟩,
        ⟨(some 27), .mv (.t 0), some (26, false)⟩,
        ⟨(some 28), .bin .gtr .scalar (.t 27) (.c (.int .i64 7)), some (26, false)⟩,
        ⟨(some 29), .pick (.t 26) (.c (.bool true)) (.t 28), none⟩,
        ⟨(some 30), .mv (.t 29), none⟩,
        ⟨(some 31), .mv (.t 1), some (30, false)⟩,
        ⟨(some 32), .bin .lss .scalar (.t 31) (.c (.int .i64 (-2))), some (30, false)⟩,
        ⟨(some 33), .pick (.t 30) (.c (.bool true)) (.t 32), none⟩,
        ⟨(some 34), .mv (.t 33), none⟩,
        ⟨(some 35), .mv (.t 1), some (34, false)⟩,
        ⟨(some 36), .bin .gtr .scalar (.t 35) (.c (.int .i64 2)), some (34, false)⟩,
        ⟨(some 37), .pick (.t 34) (.c (.bool true)) (.t 36), none⟩])
      (.cond (.t 37)
       (.seq
        (.reg [
          ⟨(some 38), .mv (.t 7), none⟩,
          ⟨(some 6), .mv (.t 38), none⟩])
        .ret)
       .skip))
     rest))))

def restOf : C → C
  | .seq _ (.seq _ (.seq _ (.seq _ r))) => r
  | _ => .bad
noncomputable def rest5 : C := match T7.F 5 with
  | some fn => restOf fn.body
  | none => .bad
theorem T7_f5 : T7.F 5 = some ⟨107, [.t 6], edgesC rest5⟩ := by kernel_rfl
theorem memo8 : memo t8 [] = some (.bool true) := by kernel_rfl

theorem begun_cl (h : H) {R : V → H → Prop} (p : R (.bool true) h) : Cl T7 8 [] h R :=
  Cl.short (Φ := memo t8) (by kernel_rfl) (by rfl) rfl memo8 p

set_option maxHeartbeats 4000000 in
theorem edges_out {k b : Int} {half : Bool} (hkb : k < 0 ∨ k > 7 ∨ b < -2 ∨ b > 2) : ∃ n, run T7 n ⟨107, [.t 6], edgesC rest5⟩ [.int .i64 k, .int .i64 b, .bool half] = some (.bool true) := by
  refine run_of_wp ?_
  generalize rest5 = rest
  change Wp T7 (edgesC rest) [.int .i64 k, .int .i64 b, .bool half, .undef, .undef, .undef, .undef, .undef, .undef, .undef, .undef, .undef, .undef, .undef, .undef, .undef, .undef, .undef, .undef, .undef, .undef, .undef, .undef, .undef, .undef, .undef, .undef, .undef, .undef, .undef, .undef, .undef, .undef, .undef, .undef, .undef, .undef, .undef, .undef, .undef, .undef, .undef, .undef, .undef, .undef, .undef, .undef, .undef, .undef, .undef, .undef, .undef, .undef, .undef, .undef, .undef, .undef, .undef, .undef, .undef, .undef, .undef, .undef, .undef, .undef, .undef, .undef, .undef, .undef, .undef, .undef, .undef, .undef, .undef, .undef, .undef, .undef, .undef, .undef, .undef, .undef, .undef, .undef, .undef, .undef, .undef, .undef, .undef, .undef, .undef, .undef, .undef, .undef, .undef, .undef, .undef, .undef, .undef, .undef, .undef, .undef, .undef, .undef, .undef, .undef, .undef, .undef] _ _
  refine Wp.seq_reg ?_
  refine goes_mv rfl rfl ?_; dsimp only [Env.put, Env.set, Env.get, ev]
  refine goes_nil (Wp.seq_reg ?_)
  refine goes_call (vs := []) rfl rfl (begun_cl _ ?_); dsimp only [Env.put, Env.set, Env.get, ev]
  refine goes_mv rfl rfl ?_; dsimp only [Env.put, Env.set, Env.get, ev]
  refine goes_nil (Wp.seq_reg ?_)
  refine goes_op (v := .sl 0 0 1 4 (some 4)) (h1 := H.empty.new (.cs [.str [105, 110, 116], .str [105, 110, 116, 56], .str [117, 105, 110, 116, 56], .str [117, 105, 110, 116]])) rfl rfl rfl ?_; dsimp only [Env.put, Env.set, Env.get, ev]
  refine goes_mv rfl rfl ?_; dsimp only [Env.put, Env.set, Env.get, ev]
  refine goes_nil (Wp.seq (Wp.seq_reg ?_))
  by_cases h1 : k < 0
  · repeat (first
      | (refine goes_mv rfl rfl ?_; dsimp only [Env.put, Env.set, Env.get, ev])
      | (refine goes_off rfl ?_; dsimp only [Env.put, Env.set, Env.get, ev])
      | (refine goes_pick rfl rfl rfl ?_; dsimp only [Env.put, Env.set, Env.get, ev])
      | (refine goes_lss_t rfl rfl rfl (by omega) ?_; dsimp only [Env.put, Env.set, Env.get, ev]))
    refine goes_nil (Wp.yes rfl (Wp.seq_reg ?_))
    refine goes_mv rfl rfl ?_; dsimp only [Env.put, Env.set, Env.get, ev]
    refine goes_mv rfl rfl ?_; dsimp only [Env.put, Env.set, Env.get, ev]
    refine goes_nil (Wp.ret (then_ret ?_))
    exact ⟨.inr rfl, _, rfl, rfl⟩
  · by_cases h2 : k > 7
    · repeat (first
        | (refine goes_mv rfl rfl ?_; dsimp only [Env.put, Env.set, Env.get, ev])
        | (refine goes_off rfl ?_; dsimp only [Env.put, Env.set, Env.get, ev])
        | (refine goes_pick rfl rfl rfl ?_; dsimp only [Env.put, Env.set, Env.get, ev])
        | (refine goes_lss_f rfl rfl rfl (by omega) ?_; dsimp only [Env.put, Env.set, Env.get, ev])
        | (refine goes_gtr_t rfl rfl rfl (by omega) ?_; dsimp only [Env.put, Env.set, Env.get, ev]))
      refine goes_nil (Wp.yes rfl (Wp.seq_reg ?_))
      refine goes_mv rfl rfl ?_; dsimp only [Env.put, Env.set, Env.get, ev]
      refine goes_mv rfl rfl ?_; dsimp only [Env.put, Env.set, Env.get, ev]
      refine goes_nil (Wp.ret (then_ret ?_))
      exact ⟨.inr rfl, _, rfl, rfl⟩
    · by_cases h3 : b < -2
      · repeat (first
          | (refine goes_mv rfl rfl ?_; dsimp only [Env.put, Env.set, Env.get, ev])
          | (refine goes_off rfl ?_; dsimp only [Env.put, Env.set, Env.get, ev])
          | (refine goes_pick rfl rfl rfl ?_; dsimp only [Env.put, Env.set, Env.get, ev])
          | (refine goes_lss_t rfl rfl rfl (by omega) ?_; dsimp only [Env.put, Env.set, Env.get, ev])
          | (refine goes_lss_f rfl rfl rfl (by omega) ?_; dsimp only [Env.put, Env.set, Env.get, ev])
          | (refine goes_gtr_f rfl rfl rfl (by omega) ?_; dsimp only [Env.put, Env.set, Env.get, ev]))
        refine goes_nil (Wp.yes rfl (Wp.seq_reg ?_))
        refine goes_mv rfl rfl ?_; dsimp only [Env.put, Env.set, Env.get, ev]
        refine goes_mv rfl rfl ?_; dsimp only [Env.put, Env.set, Env.get, ev]
        refine goes_nil (Wp.ret (then_ret ?_))
        exact ⟨.inr rfl, _, rfl, rfl⟩
      · have h4 : b > 2 := by omega
        repeat (first
          | (refine goes_mv rfl rfl ?_; dsimp only [Env.put, Env.set, Env.get, ev])
          | (refine goes_off rfl ?_; dsimp only [Env.put, Env.set, Env.get, ev])
          | (refine goes_pick rfl rfl rfl ?_; dsimp only [Env.put, Env.set, Env.get, ev])
          | (refine goes_lss_f rfl rfl rfl (by omega) ?_; dsimp only [Env.put, Env.set, Env.get, ev])
          | (refine goes_gtr_t rfl rfl rfl (by omega) ?_; dsimp only [Env.put, Env.set, Env.get, ev])
          | (refine goes_gtr_f rfl rfl rfl (by omega) ?_; dsimp only [Env.put, Env.set, Env.get, ev]))
        refine goes_nil (Wp.yes rfl (Wp.seq_reg ?_))
        refine goes_mv rfl rfl ?_; dsimp only [Env.put, Env.set, Env.get, ev]
        refine goes_mv rfl rfl ?_; dsimp only [Env.put, Env.set, Env.get, ev]
        refine goes_nil (Wp.ret (then_ret ?_))
        exact ⟨.inr rfl, _, rfl, rfl⟩

/-- In range: by the table. -/
def inTable (k b : Int) (half : Bool) : Bool := match memo t5 [.int .i64 k, .int .i64 b, .bool half] with
  | some (.bool true) => true
  | _ => false
theorem all_in : ((List.range 8).all fun k => (List.range 5).all fun b => inTable (Int.ofNat k) (Int.ofNat b - 2) false && inTable (Int.ofNat k) (Int.ofNat b - 2) true) = true := by kernel_rfl

theorem edges_in {k b : Int} {half : Bool} (h0 : 0 ≤ k) (h1 : k ≤ 7) (h2 : -2 ≤ b) (h3 : b ≤ 2) : memo t5 [.int .i64 k, .int .i64 b, .bool half] = some (.bool true) := by
  have h4 := List.all_eq_true.1 all_in k.toNat (List.mem_range.2 (by omega))
  have h5 := List.all_eq_true.1 h4 (b + 2).toNat (List.mem_range.2 (by omega))
  have hk : Int.ofNat k.toNat = k := by simp only [Int.ofNat_eq_natCast]; omega
  have hb : Int.ofNat (b + 2).toNat - 2 = b := by simp only [Int.ofNat_eq_natCast]; omega
  rw [hk, hb, Bool.and_eq_true] at h5
  have key : ∀ t : Bool, inTable k b t = true → memo t5 [.int .i64 k, .int .i64 b, .bool t] = some (.bool true) := by
    intro t ht
    unfold inTable at ht
    split at ht
    · assumption
    · cases ht
  cases half with
  | false => exact key _ h5.1
  | true => exact key _ h5.2

def F5 : List V → Option V
  | [.int .i64 _, .int .i64 _, .bool _] => some (.bool true)
  | _ => none

theorem edges_pure : PureC Tryz.prog 5 F5 := by
  refine pure_runC K0_ok J7_ok fun ds r hd => ?_
  change ∃ fn, T7.F 5 = some fn ∧ ∃ N, run T7 N fn ds = some r
  unfold F5 at hd
  split at hd
  · rename_i k b half
    obtain rfl := Option.some.inj hd
    by_cases hr : k < 0 ∨ k > 7 ∨ b < -2 ∨ b > 2
    · exact ⟨_, T7_f5, edges_out hr⟩
    · have hm := edges_in (k := k) (b := b) (half := half) (by omega) (by omega) (by omega) (by omega)
      have hin : (([.int .i64 k, .int .i64 b, .bool half], .bool true) : List V × V) ∈ t5_0 := memo_mem hm
      have h1 : runC Tryz.prog K0 J7 60 5 [.int .i64 k, .int .i64 b, .bool half] = some (.bool true) := chk_mem k5_0 _ hin
      exact runC_some h1
  · cases hd

end Go.Proofs.YtgfohimonbagmaaGreatDoor
