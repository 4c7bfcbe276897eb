/- Closed runs: the program's functions as the abstract machine takes them; a closed run's contract. -/
import Derived.Test.YtgfohimonbagmaaGreatDoorAMFast7
import Derived.Test.YtgfohimonbagmaaGreatDoorAMRun
namespace Go.AM

/-- Contracts; every function that can be turned. -/
def tabP (P : Program) (K J : FuncId → Option (List V → Option V)) : Tab := ⟨K, J, fun f => (P.funcs[f]?).bind (compFn K P)⟩

theorem tabP_ok {P : Program} {K J : FuncId → Option (List V → Option V)} (h : ∀ f Φ, K f = some Φ → PureC P f Φ) (hj : ∀ f Φ, J f = some Φ → PureC P f Φ) : TabOK P (tabP P K J) := by
  refine ⟨h, hj, fun f fn hf => ?_⟩
  have hf' : (P.funcs[f]?).bind (compFn K P) = some fn := hf
  cases hg : P.funcs[f]? with
  | none => rw [hg] at hf'; cases hf'
  | some g => rw [hg] at hf'; exact compFn_ok hg hf'

/-- A function run. -/
noncomputable def runC (P : Program) (K J : FuncId → Option (List V → Option V)) (n : Nat) (f : FuncId) (ds : List V) : Option V :=
  match (tabP P K J).F f with
  | some fn => F.runK (tabP P K J) n fn ds
  | none => none

theorem runC_some {P : Program} {K J : FuncId → Option (List V → Option V)} {n : Nat} {f : FuncId} {ds : List V} {r : V} (h : runC P K J n f ds = some r) : ∃ fn, (tabP P K J).F f = some fn ∧ ∃ N, run (tabP P K J) N fn ds = some r := by
  unfold runC at h
  split at h
  · rename_i fn hf; exact ⟨fn, hf, F.runK_some h⟩
  · cases h

open Classical in
/-- A contract out of runs. -/
theorem pure_runC {P : Program} {K J : FuncId → Option (List V → Option V)} (h : ∀ f Φ, K f = some Φ → PureC P f Φ) (hj : ∀ f Φ, J f = some Φ → PureC P f Φ) {f : FuncId} {Φ : List V → Option V}
    (hr : ∀ ds r, Φ ds = some r → ∃ fn, (tabP P K J).F f = some fn ∧ ∃ N, run (tabP P K J) N fn ds = some r) : PureC P f Φ := by
  intro G w ds cargs r hG hrel hd
  obtain ⟨fn, hfn, N, hN⟩ := hr ds r hd
  exact pure_of_run (F := fun xs => if xs = ds then some r else none) (tabP_ok h hj) ((tabP_ok h hj).F f fn hfn) (fun xs r' hx => by
    split at hx
    · rename_i e; subst e; obtain rfl := Option.some.inj hx; exact ⟨N, hN⟩
    · cases hx) G w ds cargs r hG hrel (by simp)

end Go.AM
