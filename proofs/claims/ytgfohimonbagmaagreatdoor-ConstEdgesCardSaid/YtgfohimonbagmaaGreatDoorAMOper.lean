/- Operations and calls of the abstract machine against the model's. -/
import Derived.Test.YtgfohimonbagmaaGreatDoorAMCall
import Derived.Test.YtgfohimonbagmaaGreatDoorAMOrder
namespace Go.AM
open Go.RowKit (Below)

/-- A function that is entered is the program's. -/
def FnOK (P : Program) (K : FuncId → Option (List V → Option V)) (f : FuncId) (fn : Fn) : Prop :=
  ∃ g : Func, P.funcs[f]? = some g ∧ (g.name == "runtime.NumGoroutine") = false ∧ ∃ code, g.body = some code ∧ comp K P code = erase fn.body ∧ fn.ntmps = g.ntmps ∧ resM P g.results.toList fn.res

structure TabOK (P : Program) (T : Tab) : Prop where
  K : ∀ f F, T.K f = some F → PureC P f F
  J : ∀ f F, T.J f = some F → PureC P f F
  F : ∀ f fn, T.F f = some fn → FnOK P T.K f fn

def XRel : X → Exit → Prop
  | .normal, .normal => True
  | .exit i, .exit j => i = j
  | .ret, .ret => True
  | _, _ => False

/-- What a piece of code comes to. -/
def Post (m : M) (B : Nat) (h : H) (w : World) (a : Act) (x : X) (e' : Env) (h' : H) : Exit → Act → World → Prop := fun ex a' w' =>
  ∃ m', XRel x ex ∧ EnvRel m' e' a'.tmps ∧ a'.defers = a.defers ∧ Sim m' B h' w' ∧ Grows B m m' h h' w w'

def ExecOK (P : Program) (K : FuncId → Option (List V → Option V)) (ih : Exec) : Prop :=
  ∀ c e h x e' h', ih c e h = some (x, e', h') → h.Wf → ∀ code, comp K P code = erase c → ∀ m B w a, Sim m B h w → EnvRel m e a.tmps → code.wp P (Post m B h w a x e' h') a w

theorem Env.get_getD : ∀ (e : Env) (i : Nat), e.get i = e.getD i .undef
  | [], _ => rfl
  | _ :: _, 0 => rfl
  | _ :: e, i + 1 => by rw [Env.get, Env.get_getD e i]; rfl

theorem EnvRel.args {m : M} {args : List V} {cargs : Array Value} (h : RelL m args cargs.toList) (n : Nat) :
    EnvRel m (args ++ List.replicate (n - args.length) .undef) (cargs ++ Array.replicate (n - cargs.size) undef) := by
  have hl := h.len
  refine ⟨by simp [hl], fun i => ?_⟩
  rw [Env.get_getD]
  by_cases hi : i < args.length
  · have h1 : (args ++ List.replicate (n - args.length) V.undef).getD i .undef = args[i] := by
      rw [List.getD, List.getElem?_append_left hi, List.getElem?_eq_getElem hi]; rfl
    have h2 : (cargs ++ Array.replicate (n - cargs.size) undef).getD i undef = cargs[i]'(by omega) := by
      rw [Array.getD_eq_getD_getElem?, Array.getElem?_append_left (by omega), Array.getElem?_eq_getElem (by omega)]; rfl
    rw [h1, h2]
    have := h.get i hi (by simp; omega)
    rwa [Array.getElem_toList] at this
  · have : (args ++ List.replicate (n - args.length) V.undef).getD i .undef = .undef := by
      rw [List.getD, List.getElem?_append_right (by omega), List.getElem?_replicate]
      split <;> rfl
    rw [this]; exact .undef _

theorem Grows.wf {B m m' h h' w w'} (_ : Grows B m m' h h' w w') : True := trivial

/-- A CALL. -/
theorem callF_sound {P : Program} {T : Tab} (hT : TabOK P T) {ih : Exec} (hih : ExecOK P T.K ih) {f : FuncId} {args : List V} {cargs : Array Value} {m B h w} {v : V} {h' : H}
    (hwf : h.Wf) (hs : Sim m B h w) (ha : RelL m args cargs.toList) (hc : callF T ih f args h = some (v, h')) :
    Invokes P f cargs w fun v' w' => ∃ m', Rel m' v v' ∧ Sim m' B h' w' ∧ Grows B m m' h h' w w' := by
  unfold callF at hc
  split at hc
  · rename_i F hF
    split at hc
    · rename_i hd
      split at hc
      · rename_i r hr
        obtain ⟨rfl, rfl⟩ := Prod.mk.inj (Option.some.inj hc)
        have := pure_call (hT.K f F hF) hs ha hd hr
        simpa using this
      · cases hc
    · cases hc
  · split at hc
    · rename_i r hr
      obtain ⟨rfl, rfl⟩ := Prod.mk.inj (Option.some.inj hc)
      unfold short at hr
      split at hr
      · rename_i F hF
        split at hr
        · rename_i hd
          have := pure_call (hT.J f F hF) hs ha hd hr
          simpa using this
        · cases hr
      · cases hr
    unfold enterF at hc
    split at hc
    · rename_i fn hfn
      obtain ⟨g, hg, hname, code, hbody, hcomp, hnt, hres⟩ := hT.F f fn hfn
      have hrun : (callFunc f cargs).run P w = .ok (.enter f cargs) w := by
        have hname' : ¬ g.name = "runtime.NumGoroutine" := by simpa using hname
        simp [callFunc, hg, hbody, hname']
      have main : ∀ x e1 h1 (l : List V), ih fn.body (args ++ List.replicate (fn.ntmps - args.length) .undef) h = some (x, e1, h1) → (x = .normal ∨ x = .ret) → resV e1 h1 fn.res = some l → v = oneOrTup l → h' = h1 →
          Invokes P f cargs w fun v' w' => ∃ m', Rel m' v v' ∧ Sim m' B h' w' ∧ Grows B m m' h h' w w' := by
        intro x e1 h1 l hex hx hl hv hh
        subst hv; subst hh
        unfold Invokes
        rw [hrun]
        refine calls_of_wp hg hbody ?_
        have hw := hih _ _ _ _ _ _ hex hwf code hcomp m B w { tmps := cargs ++ Array.replicate (g.ntmps - cargs.size) undef, defers := [] } hs (by rw [hnt]; exact EnvRel.args ha g.ntmps)
        refine wp_mono hw fun ex a' w' ⟨m', h1, h2, h3, h4, h5⟩ => ?_
        obtain ⟨v', hr, hrel⟩ := results_run (P := P) h4 h2 hres hl
        rcases hx with rfl | rfl
        · cases ex <;> simp only [XRel] at h1
          exact ⟨h3, v', hr, m', hrel, h4, h5⟩
        · cases ex <;> simp only [XRel] at h1
          exact ⟨h3, v', hr, m', hrel, h4, h5⟩
      split at hc
      · rename_i e1 h1 hex
        split at hc
        · rename_i l hl
          obtain ⟨rfl, rfl⟩ := Prod.mk.inj (Option.some.inj hc)
          exact main _ _ _ l hex (.inl rfl) hl rfl rfl
        · cases hc
      · rename_i e1 h1 hex
        split at hc
        · rename_i l hl
          obtain ⟨rfl, rfl⟩ := Prod.mk.inj (Option.some.inj hc)
          exact main _ _ _ l hex (.inr rfl) hl rfl rfl
        · cases hc
      · cases hc
    · cases hc

theorem resolve_func {P : Program} {ρ : Operand → Value} {c : Call} {ty : TypeId} {x : Operand} {f : FuncId} {a b : Array Value} (hc : c.callee = .value x) (hx : ρ x = .func (.func f) a b) (w : World) :
    (do let d ← resolve ρ c ty; invoke d.target d.args : Sem Next).run P w = (callFunc f (a ++ c.args.map ρ ++ b)).run P w := by
  simp [resolve, hc, hx, Deferred.ofValue, invoke]

def I.isCall : I → Bool
  | .call .. | .callv .. => true
  | _ => false

theorem cBuiltin_nocall {P : Program} {b : Builtin} {ts : List TypeId} {xs : List Operand} {i : I} (h : cBuiltin P b ts xs = some i) (hi : i.isCall = true) : False := by
  unfold cBuiltin at h
  repeat' split at h
  all_goals first
    | (cases h; done)
    | (obtain rfl := Option.some.inj h; cases hi)

theorem cI_call {P : Program} {ty : TypeId} {op : Go.Op} {i : I} (h : cI P ty op = some i) (hi : i.isCall = true) : ∃ c, op = .call c ∧ cCall P c = some i := by
  cases op
  case call c => exact ⟨c, rfl, h⟩
  case makeFunc fn a b =>
    exfalso
    cases fn <;> simp only [cI] at h
    all_goals first
      | (cases h; done)
      | (split at h
         · obtain rfl := Option.some.inj h; cases hi
         · cases h)
  all_goals
    exfalso
    simp only [cI, cBuild, cBuildSlice, cLoad, cStore, cBin, cConv, cMakeSlice, cSlice, cFieldAddr, cField, cIndexAddr, cIndex, cMset, cMget, cMakeMap] at h
  all_goals first
    | (cases h; done)
    | (obtain ⟨_, _, rfl⟩ := opt_map h; cases hi; done)
    | (repeat' split at h
       all_goals first
         | (cases h; done)
         | (obtain rfl := Option.some.inj h; cases hi))

/-- AN OPERATION, a call among them. -/
theorem oper_sound {P : Program} {T : Tab} (hT : TabOK P T) {ih : Exec} (hih : ExecOK P T.K ih) {e : Env} {a : Act} {m B h w} {o : Oper} {i : I} {v : V} {h' : H} {next : Act → World → Prop} {Q : Exit → Act → World → Prop}
    (hwf : h.Wf) (hs : Sim m B h w) (he : EnvRel m e a.tmps) (hc : cI P o.type o.op = some i) (hi : oper T ih e h i = some (v, h'))
    (hn : ∀ m' v' w', Rel m' v v' → Sim m' B h' w' → Grows B m m' h h' w w' → next (a.put o.dst v') w') : o.wp P a w next Q := by
  have hρ := cO_rel (P := P) he
  unfold Oper.wp
  have plain : iop e h i = some (v, h') → o.upon P a next Q ((execOp a.eval o).run P w) := fun hi => by
    obtain ⟨m', v', w', h1, h2, h3, h4⟩ := iop_sound hρ hs hc hi
    rcases h1 with h1 | ⟨h1, rfl⟩
    · rw [h1]; exact hn m' v' w' h2 h3 h4
    · rw [h1]; exact hn m' undef w' h2 h3 h4
  have callee : ∀ c, o.op = .call c → execOp a.eval o = (do let d ← resolve a.eval c o.type; invoke d.target d.args) := fun c hop => by
    unfold execOp; rw [hop]
  unfold oper at hi
  split at hi
  · rename_i f args
    obtain ⟨c, hop, hcc⟩ := cI_call hc rfl
    unfold cCall at hcc
    split at hcc
    · rename_i b hb
      exact (cBuiltin_nocall hcc rfl).elim
    · rename_i f' hf
      split at hcc
      · rename_i l hl
        simp only [Option.some.injEq, I.call.injEq] at hcc
        obtain ⟨rfl, rfl⟩ := hcc
        have hr := cOs_rel hρ hl
        rw [callee c hop, resolve_func hf (f := f') (a := #[]) (b := #[]) rfl]
        exact upon_invokes (callF_sound hT hih hwf hs (cargs := #[] ++ c.args.map a.eval ++ #[]) (by simpa using hr) hi) fun v' w' ⟨m', h1, h2, h3⟩ => hn m' v' w' h1 h2 h3
      · cases hcc
    · split at hcc <;> cases hcc
    · cases hcc
  · rename_i x args
    split at hi
    · rename_i f fst cap hx
      obtain ⟨c, hop, hcc⟩ := cI_call hc rfl
      unfold cCall at hcc
      split at hcc
      · rename_i b hb
        exact (cBuiltin_nocall hcc rfl).elim
      · split at hcc <;> cases hcc
      · rename_i t hf
        split at hcc
        · rename_i l hl
          simp only [Option.some.injEq, I.callv.injEq] at hcc
          obtain ⟨rfl, rfl⟩ := hcc
          have hr := cOs_rel hρ hl
          have hfn := he.get t
          have hx' : e.get t = .func f fst cap := hx
          rw [hx'] at hfn
          have hev : a.eval (.tmp t) = a.tmps.getD t undef := rfl
          generalize a.tmps.getD t undef = vf at hfn hev
          cases hfn with
          | func _ _ _ a1 c1 g1 g2 g3 g4 =>
            rw [callee c hop, resolve_func hf (f := f) (a := a1) (b := c1) hev]
            have r1 : RelL m fst a1.toList := RelL.of_get _ _ (by simpa using g1) fun j q1 q2 => by have := g3 j q1 (by simpa using q2); rwa [Array.getElem_toList]
            have r2 : RelL m cap c1.toList := RelL.of_get _ _ (by simpa using g2) fun j q1 q2 => by have := g4 j q1 (by simpa using q2); rwa [Array.getElem_toList]
            exact upon_invokes (callF_sound hT hih hwf hs (cargs := a1 ++ c.args.map a.eval ++ c1) (by simpa using (r1.append hr).append r2) hi) fun v' w' ⟨m', h1, h2, h3⟩ => hn m' v' w' h1 h2 h3
        · cases hcc
      · cases hcc
    · cases hi
  · exact plain hi

end Go.AM
