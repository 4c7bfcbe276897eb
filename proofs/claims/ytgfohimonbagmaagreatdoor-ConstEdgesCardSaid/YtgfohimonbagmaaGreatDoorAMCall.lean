/- Calls: contracts, functions entered, results. -/
import Derived.Test.YtgfohimonbagmaaGreatDoorAMOps7
namespace Go.AM
open Go.RowKit (Below)

/-- A call comes to a value. -/
def Invokes (P : Program) (f : FuncId) (args : Array Value) (w : World) (R : Value → World → Prop) : Prop :=
  match (callFunc f args).run P w with
  | .ok (.value v) w' => R v w'
  | .ok (.enter g as) w' => Calls P g as w' fun e w'' => match e with
    | .returned v => R v w''
    | _ => False
  | _ => False

theorem Invokes.mono {P : Program} {f : FuncId} {args : Array Value} {w : World} {R R' : Value → World → Prop} (h : Invokes P f args w R) (hr : ∀ v w', R v w' → R' v w') : Invokes P f args w R' := by
  unfold Invokes at *
  split at h
  · exact hr _ _ h
  · refine h.mono fun e w'' he => ?_
    cases e with
    | returned v => exact hr _ _ he
    | panicked _ => exact he
    | outgrown => exact he
  · exact h.elim

theorem upon_invokes {P : Program} {f : FuncId} {args : Array Value} {w : World} {R : Value → World → Prop} {o : Oper} {a : Act} {next : Act → World → Prop} {Q : Exit → Act → World → Prop}
    (h : Invokes P f args w R) (hr : ∀ v w', R v w' → next (a.put o.dst v) w') : o.upon P a next Q ((callFunc f args).run P w) := by
  unfold Invokes at h
  split at h
  · rename_i hrun; rw [hrun]; exact hr _ _ h
  · rename_i hrun; rw [hrun]
    refine Calls.mono h fun e w'' he => ?_
    cases e with
    | returned v => exact hr _ _ he
    | panicked _ => exact he.elim
    | outgrown => exact he.elim
  · exact h.elim

/-- No heap, these data. -/
def M.only (G : Nat → Option (Array Value)) : M := ⟨fun _ => none, G, fun _ => none⟩

/-- The blocks that are data hold their cells. -/
def Held (G : Nat → Option (Array Value)) (w : World) : Prop := ∀ k cs, G k = some cs → ∃ el fz, w.heap[k]? = some (.cells cs el fz)

/-- A function that takes data and answers data, and turns nothing. -/
def PureC (P : Program) (f : FuncId) (F : List V → Option V) : Prop :=
  ∀ (G : Nat → Option (Array Value)) (w : World) (ds : List V) (cargs : List Value) (r : V), Held G w → RelL (M.only G) ds cargs → F ds = some r →
    Invokes P f cargs.toArray w fun v w' => ∃ G', (∀ k cs, G k = some cs → G' k = some cs) ∧ (∀ k, G' k ≠ none → G k ≠ none ∨ w.heap.size ≤ k) ∧ Held G' w' ∧ Rel (M.only G') r v ∧ Below w.heap.size w w'

theorem data_rel {m : M} {x : V} {v : Value} (h : Rel m x v) (hd : x.isData = true) : Rel (M.only m.G) x v := by
  have key : ∀ xs : List V, V.isData.go xs = true → ∀ j (hj : j < xs.length), (xs[j]).isData = true := by
    intro xs
    induction xs with
    | nil => intro _ j hj; simp at hj
    | cons x r ih =>
      intro h j hj
      simp only [V.isData.go, Bool.and_eq_true] at h
      cases j with
      | zero => exact h.1
      | succ j => exact ih h.2 j (by simpa using hj)
  induction h with
  | undef v => simp [V.isData] at hd
  | bool b => exact .bool b
  | int k n => exact .int k n
  | flt k n => exact .flt k n
  | str s l h => exact .str s l h
  | ptr => simp [V.isData] at hd
  | pint k zs i B off cs hG hc => exact .pint k zs i B off cs hG hc
  | plst xs i B off cs ws hG hc _ ih => exact .plst xs i B off cs ws hG hc fun j hj => ih j hj (key xs hd j hj)
  | nilp => exact .nilp
  | sl => simp [V.isData] at hd
  | intsn k cap h => exact .intsn k cap h
  | ints k zs cap B off cs c hG hc hl hcap => exact .ints k zs cap B off cs c hG hc hl hcap
  | intse k cap a c h => exact .intse k cap a c h
  | lste sz cap a c h => exact .lste sz cap a c h
  | lstn sz cap h => exact .lstn sz cap h
  | lst sz n xs cap B off cs c ws hG hn hc _ hl hcap ih => exact .lst sz n xs cap B off cs c ws hG hn hc (fun j hj => ih j hj (key xs hd j hj)) hl hcap
  | func => simp [V.isData] at hd
  | nilf => exact .nilf
  | agg xs a hs _ ih => exact .agg xs a hs fun j h1 h2 => ih j h1 h2 (key xs hd j h1)
  | tup => simp [V.isData] at hd
  | map => simp [V.isData] at hd
  | nilmap => exact .nilmap

theorem data_relL {m : M} {l : List V} {r : List Value} (h : RelL m l r) (hd : allData l = true) : RelL (M.only m.G) l r := by
  induction h with
  | nil => exact .nil
  | cons hx _ ih =>
    simp only [allData, Bool.and_eq_true] at hd
    exact .cons (data_rel hx hd.1) (ih hd.2)

theorem only_le (m : M) : (M.only m.G).Le m := ⟨fun _ _ e => (by cases e), fun _ _ e => e, fun _ _ e => (by cases e)⟩

/-- A CONTRACT MET IN THE MIDDLE OF A RUN. -/
theorem pure_call {P : Program} {f : FuncId} {F : List V → Option V} (hF : PureC P f F) {m : M} {B h w} (hs : Sim m B h w) {args : List V} {cargs : List Value} {r : V}
    (ha : RelL m args cargs) (hd : allData args = true) (hr : F args = some r) :
    Invokes P f cargs.toArray w fun v w' => ∃ m', Rel m' r v ∧ Sim m' B h w' ∧ Grows B m m' h h w w' := by
  refine (hF m.G w args cargs r hs.ghost (data_relL ha hd) hr).mono fun v w' ⟨G', g1, g2, g3, g4, g5⟩ => ?_
  have hle : m.Le ⟨m.φ, G', m.μ⟩ := ⟨fun _ _ e => e, g1, fun _ _ e => e⟩
  have hold : ∀ k, k < w.heap.size → w'.heap[k]? = w.heap[k]? := g5.block
  have hblk : ∀ b p, m.φ b = some p → p.blk < w.heap.size := fun b p e => by
    obtain ⟨_, _, cs, el, fz, e', _⟩ := hs.own b p e
    exact lt_of_some e'
  refine ⟨⟨m.φ, G', m.μ⟩, Rel.mono (only_le ⟨m.φ, G', m.μ⟩) g4, ⟨Nat.le_trans hs.bound g5.size, hs.dom, ?_, ?_, hs.inj, g3, hs.keepMaps hle rfl rfl (fun r es clk e => by rw [hold r (lt_of_some e)]; exact e), hs.minj⟩, ⟨hle, g5.mono hs.bound, fun b _ e => ⟨e, rfl⟩, Nat.le_refl _, g2⟩⟩
  · intro b p e
    obtain ⟨a1, a2, cs, el, fz, a3, a4, a5⟩ := hs.own b p e
    refine ⟨a1, ?_, cs, el, fz, by rw [hold _ (hblk b p e)]; exact a3, a4, fun o ho => by rw [← a5 o ho]; exact World.frozen?_of_block (w := w) (hold _ (hblk b p e))⟩
    show G' p.blk = none
    cases hg : G' p.blk with
    | none => rfl
    | some cs2 =>
      rcases g2 p.blk (by rw [hg]; simp) with h1 | h1
      · exact absurd a2 h1
      · have := hblk b p e; omega
  · intro b p r e hr
    obtain ⟨a1, a2, a3⟩ := hs.cells b p r e hr
    exact ⟨a1, a2, fun i x hx => by
      obtain ⟨v, hv, hrel⟩ := a3 i x hx
      exact ⟨v, (World.cell?_of_block (w := w) (hold _ (hblk b p e))).trans hv, hrel.mono hle⟩⟩

/-! The code that is matched. -/

def resM (P : Program) : List ResultVar → List Res → Prop
  | [], [] => True
  | .tmp t :: r, .t i :: s => t = i ∧ resM P r s
  | .cell a t :: r, .cell i agg n :: s => a = i ∧ agg = isAggT P t ∧ (P.underlying t).isSome = true ∧ (∃ j, P.info? t = some j ∧ j.size = n) ∧ resM P r s
  | _, _ => False

/-- One result. -/
def resOne (tmps : Array Value) (r : ResultVar) : Sem Value :=
  match r with
  | .tmp t => pure (tmps.getD t undef)
  | .cell a t => do loadVar t (← asAddr (tmps.getD a undef))

theorem results_sound {P : Program} {m : M} {B h w} (hs : Sim m B h w) {e : Env} {tmps : Array Value} (he : EnvRel m e tmps) : ∀ {rs : List ResultVar} {fs : List Res} {l : List V}, resM P rs fs → resV e h fs = some l →
    ∃ vs : List Value, (rs.mapM (resOne tmps)).run P w = .ok vs w ∧ RelL m l vs
  | [], [], l, _, hl => by simp [resV] at hl; subst hl; exact ⟨[], rfl, .nil⟩
  | .tmp t :: r, .t i :: s, l, hm, hl => by
    obtain ⟨rfl, hm⟩ := hm
    simp only [resV] at hl
    split at hl
    · rename_i l' hl'
      obtain rfl := Option.some.inj hl
      obtain ⟨vs, h1, h2⟩ := results_sound hs he hm hl'
      have h0 : (resOne tmps (.tmp t)).run P w = .ok (tmps.getD t undef) w := rfl
      exact ⟨tmps.getD t undef :: vs, by rw [List.mapM_cons, Sem.run_bind, h0]; simp only [Result.andThen_ok, Sem.run_bind, h1, Sem.run_pure], .cons (he.get t) h2⟩
    · cases hl
  | .cell a t :: r, .cell i agg n :: s, l, hm, hl => by
    obtain ⟨rfl, rfl, hu, ⟨j, hj, rfl⟩, hm⟩ := hm
    simp only [resV] at hl
    split at hl
    · rename_i v l' hv hl'
      obtain rfl := Option.some.inj hl
      obtain ⟨vs, h1, h2⟩ := results_sound hs he hm hl'
      obtain ⟨v', hrun, hrel⟩ := loadV_sound (P := P) hs hj hu (he.get a) hv
      refine ⟨v' :: vs, ?_, .cons hrel h2⟩
      have ha : ∃ ad, tmps.getD a undef = .pointer (some ad) := by
        have := he.get a
        unfold loadV at hv
        split at hv
        · rename_i hx; rw [hx] at this; generalize tmps.getD a undef = va at this ⊢; cases this; exact ⟨_, rfl⟩
        · rename_i hx; rw [hx] at this; generalize tmps.getD a undef = va at this ⊢; cases this; exact ⟨_, rfl⟩
        · rename_i hx; rw [hx] at this; generalize tmps.getD a undef = va at this ⊢; cases this; exact ⟨_, rfl⟩
        · cases hv
      obtain ⟨ad, had⟩ := ha
      rw [had] at hrun
      have hrun' : (loadVar t ad).run P w = .ok v' w := by simpa [Instr.loadAt, Instr.sureAddr] using hrun
      have h0 : (resOne tmps (.cell a t)).run P w = .ok v' w := by
        unfold resOne
        dsimp only
        rw [had]
        exact hrun'
      rw [List.mapM_cons, Sem.run_bind, h0]; simp only [Result.andThen_ok, Sem.run_bind, h1, Sem.run_pure]
    · cases hl
  | .tmp _ :: _, .cell .. :: _, _, hm, _ => by simp [resM] at hm
  | .cell .. :: _, .t _ :: _, _, hm, _ => by simp [resM] at hm
  | [], .t _ :: _, _, hm, _ => by simp [resM] at hm
  | [], .cell .. :: _, _, hm, _ => by simp [resM] at hm
  | .tmp _ :: _, [], _, hm, _ => by simp [resM] at hm
  | .cell .. :: _, [], _, hm, _ => by simp [resM] at hm

theorem results_run {P : Program} {m : M} {B h w} (hs : Sim m B h w) {e : Env} {tmps : Array Value} (he : EnvRel m e tmps) {fn : Func} {fs : List Res} {l : List V} (hm : resM P fn.results.toList fs) (hl : resV e h fs = some l) :
    ∃ v, (results fn tmps).run P w = .ok v w ∧ Rel m (oneOrTup l) v := by
  obtain ⟨vs, h1, h2⟩ := results_sound (P := P) hs he hm hl
  have e0 : results fn tmps = (do let vs ← fn.results.mapM (resOne tmps); pure (if h : vs.size = 1 then vs[0] else .tuple vs)) := rfl
  have hrun : (fn.results.mapM (resOne tmps)).run P w = .ok vs.toArray w := by
    rw [Array.mapM_eq_mapM_toList]
    rw [show (List.toArray <$> fn.results.toList.mapM (resOne tmps)) = (do pure (List.toArray (← fn.results.toList.mapM (resOne tmps)))) from rfl]
    rw [Sem.run_bind, h1]; rfl
  rw [e0, Sem.run_bind, hrun]
  simp only [Result.andThen_ok, Sem.run_pure]
  cases h2 with
  | nil => exact ⟨_, rfl, rel_tup .nil⟩
  | cons hx ht =>
    cases ht with
    | nil => exact ⟨_, rfl, hx⟩
    | cons hy ht' =>
      refine ⟨_, rfl, ?_⟩
      simp only [List.size_toArray, List.length_cons]
      rw [dif_neg (by omega)]
      exact rel_tup (.cons hx (.cons hy ht'))

end Go.AM
