/- A function's run as a contract: what it answers, laid open as data. -/
import Derived.Test.YtgfohimonbagmaaGreatDoorAMExec
namespace Go.AM
open Go.RowKit (Below)

/-- What is data behind a run. -/
def dataOf (G : Nat → Option (Array Value)) (n : Nat) (w : World) : Nat → Option (Array Value) := fun k =>
  if k < n then G k else match w.heap[k]? with
    | some (.cells cs _ _) => some cs
    | _ => none

theorem RC.get_drop {r : RC} {k : IntKind} {zs : List Int} (hr : r = .is k zs) {i : Nat} (hi : i < zs.length) : r.get i = some (.int k zs[i]) := by
  subst hr
  simp [RC.get, hi]

theorem freeze_sound {m : M} {B : Nat} {h : H} {w : World} {G : Nat → Option (Array Value)} (hs : Sim m B h w) (hG : ∀ k cs, m.G k = some cs → dataOf G B w k = some cs) :
    ∀ n, (∀ x y v, freeze h n x = some y → Rel m x v → Rel (M.only (dataOf G B w)) y v) ∧
      (∀ xs ys (vs : List Value), freezeL (freeze h n) xs = some ys → RelL m xs vs → RelL (M.only (dataOf G B w)) ys vs) := by
  intro n
  induction n with
  | zero =>
    refine ⟨fun x y v hx => by simp [freeze] at hx, fun xs => ?_⟩
    intro ys vs hx hr
    cases hr with
    | nil => simp [freezeL] at hx; subst hx; exact .nil
    | cons => simp [freezeL, freeze] at hx
  | succ n ih =>
    have hle : (M.only m.G).Le (M.only (dataOf G B w)) := ⟨fun _ _ e => (by cases e), hG, fun _ _ e => (by cases e)⟩
    have one : ∀ x y v, freeze h (n + 1) x = some y → Rel m x v → Rel (M.only (dataOf G B w)) y v := by
      intro x y v hx hr
      unfold freeze at hx
      split at hx
      · rename_i b o sz len cap
        split at hx
        · rename_i r hrow
          cases hr with
          | sl _ _ _ _ _ p c hφ hl hc hcap hrw =>
            obtain ⟨hB, hGn, cs, el, fz, hw, hsz, _⟩ := hs.own b p hφ
            obtain ⟨c1, c2, c3⟩ := hs.cells b p r hφ hrow
            have hdata : (M.only (dataOf G B w)).G p.blk = some cs := by
              show dataOf G B w p.blk = some cs
              unfold dataOf
              rw [if_neg (by omega), hw]
            split at hx
            · rename_i k zs hrc
              split at hx
              · rename_i hcond
                obtain rfl := Option.some.inj hx
                simp only [Bool.and_eq_true, beq_iff_eq, decide_eq_true_eq] at hcond
                obtain ⟨rfl, hle2⟩ := hcond
                have hlen : ((zs.drop o).take len).length = len := by simp; omega
                have := Rel.ints (m := M.only (dataOf G B w)) k ((zs.drop o).take len) cap p.blk (p.base + o) cs c hdata (fun j hj => by
                  rw [hlen] at hj
                  obtain ⟨v, hv, hrel⟩ := c3 (o + j) _ (RC.get_drop hrc (by omega))
                  rw [cell_cells hw] at hv
                  rw [show p.base + o + j = p.base + (o + j) by omega, hv]
                  cases hrel
                  simp) (by rw [hlen]; exact hl) hcap
                rw [hlen] at this
                exact this
              · cases hx
            · rename_i xs hrc
              split at hx
              · rename_i hcond
                simp only [decide_eq_true_eq] at hcond
                split at hx
                · rename_i l hall
                  obtain rfl := Option.some.inj hx
                  have hrl : RelL m ((xs.drop o).take (len * sz)) ((List.range (len * sz)).map fun j => (cs[p.base + o + j]?).getD undef) := by
                    refine RelL.of_get _ _ (by simp; omega) fun j h1 h2 => ?_
                    simp at h1
                    simp only [List.getElem_take, List.getElem_drop, List.getElem_map, List.getElem_range]
                    obtain ⟨v, hv, hrel⟩ := c3 (o + j) (xs[o + j]'(by omega)) (by rw [hrc]; simp [RC.get])
                    rw [cell_cells hw] at hv
                    rw [show p.base + o + j = p.base + (o + j) by omega, hv]
                    exact hrel
                  have hrl2 := ih.2 _ _ _ hall hrl
                  have hlen := hrl2.length
                  simp only [List.length_map, List.length_range] at hlen
                  refine .lst sz len l cap p.blk (p.base + o) cs c (fun j => (cs[p.base + o + j]?).getD undef) hdata hlen (fun j hj => ?_) (fun j hj => ?_) hl hcap
                  · obtain ⟨v, hv, _⟩ := c3 (o + j) (xs[o + j]'(by omega)) (by rw [hrc]; simp [RC.get])
                    rw [cell_cells hw] at hv
                    rw [show p.base + o + j = p.base + (o + j) by omega, hv]; rfl
                  · have := hrl2.get j hj (by simp; omega)
                    simpa using this
                · cases hx
              · cases hx
        · cases hx
      · rename_i xs
        split at hx
        · rename_i l hall
          obtain rfl := Option.some.inj hx
          cases hr with
          | agg _ a h1 h2 => exact rel_agg (ih.2 _ _ _ hall (relL_of_agg (.agg xs a h1 h2)))
        · cases hx
      · rename_i xs
        split at hx
        · rename_i l hall
          obtain rfl := Option.some.inj hx
          cases hr with
          | tup _ a h1 h2 => exact rel_tup (ih.2 _ _ _ hall (relL_of_tup (.tup xs a h1 h2)))
        · cases hx
      · split at hx
        · rename_i hd
          obtain rfl := Option.some.inj hx
          exact (data_rel hr hd).mono hle
        · cases hx
    refine ⟨one, fun xs => ?_⟩
    induction xs with
    | nil =>
      intro ys vs hx hr
      cases hr
      simp [freezeL] at hx; subst hx; exact .nil
    | cons x r ihx =>
      intro ys vs hx hr
      cases hr with
      | cons h1 h2 =>
        simp only [freezeL] at hx
        split at hx
        · rename_i y hy
          split at hx
          · rename_i l hl
            obtain rfl := Option.some.inj hx
            exact .cons (one _ _ _ hy h1) (ihx _ _ hl h2)
          · cases hx
        · cases hx

theorem Sim.empty {G : Nat → Option (Array Value)} {w : World} (hG : Held G w) : Sim (M.only G) w.heap.size .empty w :=
  ⟨Nat.le_refl _, fun _ _ e => (by cases e), fun _ _ e => (by cases e), fun _ _ _ e => (by cases e), fun _ _ _ _ e => (by cases e), hG, fun _ _ e => (by cases e), fun _ _ _ e => (by cases e)⟩

theorem H.empty_wf : H.empty.Wf := fun b r e => by simp [H.empty, H.row] at e

/-- A FUNCTION'S RUN IS ITS CONTRACT. -/
theorem pure_of_run {P : Program} {T : Tab} (hT : TabOK P T) {f : FuncId} {fn : Fn} (hfn : FnOK P T.K f fn) {F : List V → Option V}
    (hF : ∀ ds r, F ds = some r → ∃ n, run T n fn ds = some r) : PureC P f F := by
  intro G w ds cargs r hG hrel hr
  obtain ⟨n, hn⟩ := hF ds r hr
  obtain ⟨g, hg, hname, code, hbody, hcomp, hnt, hres⟩ := hfn
  have hname' : ¬ g.name = "runtime.NumGoroutine" := by simpa using hname
  have hrun : (callFunc f cargs.toArray).run P w = .ok (.enter f cargs.toArray) w := by simp [callFunc, hg, hbody, hname']
  unfold Invokes
  rw [hrun]
  refine calls_of_wp hg hbody ?_
  have main : ∀ x e1 h1 (l : List V), exec T n fn.body (ds ++ List.replicate (fn.ntmps - ds.length) .undef) .empty = some (x, e1, h1) → (x = .normal ∨ x = .ret) → resV e1 h1 fn.res = some l → freeze h1 9 (oneOrTup l) = some r →
      code.wp P (bodyPost P g fun e w'' => match e with
        | .returned v => ∃ G', (∀ k cs, G k = some cs → G' k = some cs) ∧ (∀ k, G' k ≠ none → G k ≠ none ∨ w.heap.size ≤ k) ∧ Held G' w'' ∧ Rel (M.only G') r v ∧ Below w.heap.size w w''
        | _ => False) { tmps := cargs.toArray ++ Array.replicate (g.ntmps - cargs.toArray.size) undef, defers := [] } w := by
    intro x e1 h1 l hex hx hl hfz
    have hw := exec_sound hT n n (Nat.le_refl _) _ _ _ _ _ _ hex H.empty_wf code hcomp (M.only G) w.heap.size w { tmps := cargs.toArray ++ Array.replicate (g.ntmps - cargs.toArray.size) undef, defers := [] } (Sim.empty hG) (by rw [hnt]; exact EnvRel.args (by simpa using hrel) g.ntmps)
    refine wp_mono hw fun ex a' w' ⟨m', q1, q2, q3, q4, q5⟩ => ?_
    obtain ⟨v', hv, hrel'⟩ := results_run (P := P) q4 q2 hres hl
    have hGk : ∀ k cs, G k = some cs → k < w.heap.size := fun k cs e => by
      obtain ⟨_, _, e2⟩ := hG k cs e; exact lt_of_some e2
    have key : ∀ k cs, m'.G k = some cs → dataOf G w.heap.size w' k = some cs := fun k cs e => by
      unfold dataOf
      split
      · rename_i hk
        rcases q5.ghost k (by rw [e]; simp) with hne | hge
        · cases hgk : G k with
          | none => exact absurd hgk hne
          | some cs0 =>
            have := q5.le.G k cs0 hgk
            rw [e] at this; exact this.symm
        · omega
      · obtain ⟨el, fz, e2⟩ := q4.ghost k cs e
        rw [e2]
    have post : ∃ G', (∀ k cs, G k = some cs → G' k = some cs) ∧ (∀ k, G' k ≠ none → G k ≠ none ∨ w.heap.size ≤ k) ∧ Held G' w' ∧ Rel (M.only G') r v' ∧ Below w.heap.size w w' := by
      refine ⟨dataOf G w.heap.size w', fun k cs e => ?_, fun k hk => ?_, fun k cs e => ?_, (freeze_sound q4 key 9).1 _ _ _ hfz hrel', q5.below⟩
      · unfold dataOf; rw [if_pos (hGk k cs e)]; exact e
      · unfold dataOf at hk
        split at hk
        · exact .inl hk
        · exact .inr (by omega)
      · unfold dataOf at e
        split at e
        · rename_i hk
          obtain ⟨el, fz, e2⟩ := hG k cs e
          exact ⟨el, fz, by rw [q5.below.block k hk]; exact e2⟩
        · split at e
          · rename_i cs' el fz hcell
            obtain rfl := Option.some.inj e
            exact ⟨el, fz, hcell⟩
          · cases e
    rcases hx with rfl | rfl
    · cases ex <;> simp only [XRel] at q1
      exact ⟨q3, v', hv, post⟩
    · cases ex <;> simp only [XRel] at q1
      exact ⟨q3, v', hv, post⟩
  unfold run at hn
  split at hn
  · rename_i e1 h1 hex
    split at hn
    · rename_i l hl
      exact main _ _ _ l hex (.inl rfl) hl hn
    · cases hn
  · rename_i e1 h1 hex
    split at hn
    · rename_i l hl
      exact main _ _ _ l hex (.inr rfl) hl hn
    · cases hn
  · cases hn

theorem erase_comp {K : FuncId → Option (List V → Option V)} {P : Program} : ∀ code, erase (comp K P code) = comp K P code
  | .region id ops dr => by
    cases dr with
    | false => rfl
    | true =>
      simp only [comp]
      rcases planD_cases (K := K) (P := P) (ops := ops) with ⟨ord, _, h2⟩ | h
      · rw [h2]; rfl
      · rw [h]; rfl
  | .seq a b => by simp only [comp, erase, erase_comp a, erase_comp b]
  | .cond c a b => by
    simp only [comp]
    split
    · simp only [erase, erase_comp a, erase_comp b]
    · rfl
  | .block id c => by simp only [comp, erase, erase_comp c]
  | .loop c => by simp only [comp, erase, erase_comp c]
  | .skip => rfl
  | .label _ => rfl
  | .ret => rfl
  | .exit _ => rfl
  | .goto .. => rfl
  | .scope .. => rfl
  | .rangeFunc .. => rfl
  | .refuse .. => rfl

theorem compRes_resM {P : Program} : ∀ {rs : List ResultVar} {fs : List Res}, compRes P rs = some fs → resM P rs fs
  | [], fs, h => by simp [compRes] at h; subst h; trivial
  | .tmp t :: r, fs, h => by
    simp only [compRes] at h
    split at h
    · rename_i l hl
      obtain rfl := Option.some.inj h
      exact ⟨rfl, compRes_resM hl⟩
    · cases h
  | .cell a t :: r, fs, h => by
    simp only [compRes] at h
    split at h
    · rename_i j u l hj hu hl
      obtain rfl := Option.some.inj h
      exact ⟨rfl, rfl, by rw [hu]; rfl, ⟨j, hj, rfl⟩, compRes_resM hl⟩
    · cases h

/-- The program's own code. -/
theorem compFn_ok {K : FuncId → Option (List V → Option V)} {P : Program} {f : FuncId} {g : Func} {fn : Fn} (hg : P.funcs[f]? = some g) (h : compFn K P g = some fn) : FnOK P K f fn := by
  unfold compFn at h
  split at h
  · rename_i c r hc hr
    split at h
    · cases h
    · rename_i hname
      obtain rfl := Option.some.inj h
      exact ⟨g, hg, by simpa using hname, c, hc, (erase_comp c).symm, rfl, compRes_resM hr⟩
  · cases h

end Go.AM
