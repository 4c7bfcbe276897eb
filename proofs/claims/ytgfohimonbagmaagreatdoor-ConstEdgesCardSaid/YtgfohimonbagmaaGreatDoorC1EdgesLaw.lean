/- ConstEdges: the row and its tied card: whatever the input the call returns true, and the input reads as it did; the listed package-level variables read as listed, which the card ties to the program's text. -/
import Derived.Test.YtgfohimonbagmaaGreatDoorC1Edges
import Derived.Test.YtgfohimonbagmaaGreatDoorCards
import Derived.Test.YtgfohimonbagmaaGreatDoorTie
import Derived.WalkKit
import Derived.ProofKit
import Derived.OpenShut
import Derived.LaidMore
import Derived.Lay
import Derived.SevenTiedAt
import Derived.Stop.Joined
namespace Go.Proofs.YtgfohimonbagmaaGreatDoor
open Go.ChangeShapes Go.WideShapes Go.ChangeAt Go.RowKit

theorem own : ownKnob Tryz.prog.godebug = none := by kernel_rfl

/-- A call of data, by a contract of its own. -/
theorem calls_of_pure {P : Program} {f : FuncId} {g : Func} {F : List Go.AM.V → Option Go.AM.V} (hF : Go.AM.PureC P f F) (hg : P.funcs[f]? = some g) (hname : (g.name == "runtime.NumGoroutine") = false) (hb : g.body.isSome = true)
    {ds : List Go.AM.V} {cargs : List Value} {r : Go.AM.V} (w : World) (hrel : Go.AM.RelL (Go.AM.M.only fun _ => none) ds cargs) (hd : F ds = some r) :
    Calls P f cargs.toArray w fun e w' => ∃ v, e = .returned v ∧ (∃ G, Go.AM.Rel (Go.AM.M.only G) r v) ∧ Below w.heap.size w w' := by
  have h := hF (fun _ => none) w ds cargs r (fun _ _ e => by cases e) hrel hd
  unfold Go.AM.Invokes at h
  have hname' : ¬ g.name = "runtime.NumGoroutine" := by simpa using hname
  have hrun : (callFunc f cargs.toArray).run P w = .ok (.enter f cargs.toArray) w := by
    obtain ⟨c, hc⟩ := Option.isSome_iff_exists.1 hb
    simp [callFunc, hg, hname', hc]
  rw [hrun] at h
  refine h.mono fun e w' he => ?_
  cases e with
  | returned v =>
    obtain ⟨G', _, _, _, h4, h5⟩ := he
    exact ⟨v, rfl, ⟨G', h4⟩, h5⟩
  | panicked _ => exact he.elim
  | outgrown => exact he.elim

set_option maxRecDepth 100000 in
theorem walk5 (a0 a1 : Int) (a2 : Bool) (w : World) :
    Calls Tryz.prog 5 #[.int .i64 a0, .int .i64 a1, .bool a2] w fun e w' => e = .returned (.bool true) ∧ Below w.heap.size w w' := by
  refine (calls_of_pure (P := Tryz.prog) (f := 5) (g := Tryz.f5) (F := F5) edges_pure Tryz.func5 (by kernel_rfl) (by kernel_rfl) (ds := [.int .i64 a0, .int .i64 a1, .bool a2]) (cargs := [.int .i64 a0, .int .i64 a1, .bool a2]) (r := .bool true) w
    (.cons (.int _ _) (.cons (.int _ _) (.cons (.bool _) .nil))) rfl).mono fun e w' he => ?_
  obtain ⟨v, rfl, ⟨G, hv⟩, hb⟩ := he
  cases hv
  exact ⟨rfl, hb⟩

set_option maxRecDepth 100000 in
theorem lifted5 (os : Os) (started : os.Started) (H : Type) (enc : TypeId × Value → H) :
    ReturnsInHanded {} Tryz.checked os 5 .any (fun w args => (Rows.constEdgesSpec.pre enc Tryz.prog Tryz.f5 Rows.constEdgesRow.domain false w args ∧ laidMetH Tryz.prog Rows.constEdgesRow.laid w) ∧ sizedMet enc Tryz.prog Tryz.f5 (OpenSpec.ofChange Rows.constEdgesSpec) false w args)
      (Rows.constEdgesSpec.post enc Tryz.prog Tryz.f5 false true false false) := by
  refine returnsInHanded_of_change_and (C := Tryz.checked) (X := fun w _ => laidMetH Tryz.prog Rows.constEdgesRow.laid w) (fun _ _ _ hh h => h.of_heap hh) own started (by kernel_rfl) Tryz.func5
    (ChangeSpec.witness_shaped (enc := enc) (C := Tryz.checked) (os := os) (X := fun w _ => laidMetH Tryz.prog Rows.constEdgesRow.laid w) false (World.laidAll Tryz.prog os Rows.constEdgesRow.laid) #[.int .i64 0, .int .i64 0, .bool false] 8 (World.laidAll_os _ _ _)
      (World.shaped_of_ZipB (by kernel_rfl) (by kernel_rfl)) (by kernel_rfl) (by kernel_rfl) (by kernel_rfl)
      (by rw [MakeChecks.laidMetH_plain _ _ _ (by kernel_rfl)]; exact laidMet_laidAll _ (by kernel_rfl) (by kernel_rfl))) ?_
  intro W base args ds gs before hval0 hW _ _ _ _
  have hval : ∀ (j : Nat) t v, Tryz.f5.params[j]? = some t → args[j]? = some v → Value.okWide Tryz.prog W .any base t v := hval0
  have hW' := hW
  obtain ⟨p, q, hA0, hV, rfl, hfz, hnd⟩ := hW
  have hA : DataW.TrodAll enc Tryz.prog W 0 (fun _ => true) true Tryz.f5.params.toList args.toList ds p := hA0
  rw [Tryz.params5] at hA hval
  obtain ⟨v0, vs0, d0, ds0, p0, q0, hargs, rfl, rfl, h0, r0⟩ := trodAll_cons hA
  obtain ⟨v1, vs1, d1, ds1, p1, q1, rfl, rfl, rfl, h1, r1⟩ := trodAll_cons r0
  obtain ⟨v2, vs2, d2, ds2, p2, q2, rfl, rfl, rfl, h2, r2⟩ := trodAll_cons r1
  obtain ⟨rfl, rfl, rfl⟩ := trodAll_nil r2
  obtain rfl : args = #[v0, v1, v2] := by cases args; simp_all
  obtain ⟨rfl, rfl⟩ := trodVars_none hV
  obtain ⟨a0, rfl, rfl, rfl, w0⟩ := open_int Tryz.underlying3 (hval 0 3 v0 rfl rfl) h0
  obtain ⟨a1, rfl, rfl, rfl, w1⟩ := open_int Tryz.underlying3 (hval 1 3 v1 rfl rfl) h1
  obtain ⟨a2, rfl, rfl, rfl⟩ := open_bool Tryz.underlying4 (hval 2 4 v2 rfl rfl) h2
  clear hA0 hval0
  simp only [List.append_nil] at hW'
  refine (walk5 a0 a1 a2 W).mono fun e W' ⟨he, hb⟩ => ?_
  subst he
  refine ⟨_, rfl, _, _, _, [], [], [], hW', trodAll_cons_mk (shut_bool Tryz.underlying4 _) trodAll_mk0, trodAll_cons_mk (shut_int Tryz.underlying3 w0) (trodAll_cons_mk (shut_int Tryz.underlying3 w1) (trodAll_cons_mk (shut_bool Tryz.underlying4 _) trodAll_mk0)), rfl, hb.frame _, fun h => by cases h⟩

theorem constEdges_said : Rows.ConstEdgesSaid :=
  OpenClaim.holds_of_wide 5 Tryz.f5 rfl rfl rfl rfl rfl rfl rfl ⟨rfl, rfl, rfl, rfl, rfl⟩ rfl rfl rfl rfl rfl (by kernel_rfl) Tryz.func5 (by kernel_rfl)
    (of_decide_eq_true (by kernel_rfl)) (by unfold Func.isWrapper; first | (rw [if_pos (by decide +kernel)]; kernel_rfl) | (rw [if_neg (by decide +kernel)]; exact ⟨rfl, rfl⟩))
    (fun os started H enc _ => lifted5 os started H enc)

theorem constEdges_card : Rows.ConstEdgesCardSaid :=
  Claim7.holds_tied_plain_at .later [] [.data, .listed, .data, .pinned, .pinned] true (true, "0871d80f7bc2106acd126a29286aba5ed30dc4cc05d60fa5ec17cc5877e7084a") false
    constEdges_said (fun _ h => by cases h) (by kernel_rfl) (fun _ h => by cases h) constEdges_row_tie rfl ⟨rfl, rfl⟩ (by kernel_rfl) rfl
    (fun f fn hf hfn => by
      obtain rfl : f = 5 := Option.some.inj ((show Tryz.prog.funcNamed "sterling/sterlinglaw10.ConstEdges" = some 5 by kernel_rfl).symm.trans hf) |>.symm
      obtain rfl : fn = Tryz.f5 := (Option.some.inj (Tryz.func5.symm.trans hfn)).symm
      exact ⟨by kernel_rfl, fun j t ht => by
        rw [Tryz.params5] at ht
        have hm : t ∈ [3, 3, 4] := by simpa using Array.mem_of_getElem? ht
        have hall : ([3, 3, 4].all fun u => !Tryz.prog.wantsStandIn u) = true := by kernel_rfl
        exact (show Tryz.prog.wantsStandIn t = false by simpa using List.all_eq_true.1 hall t hm)⟩)
    (by kernel_rfl)
#print axioms constEdges_card
end Go.Proofs.YtgfohimonbagmaaGreatDoor
