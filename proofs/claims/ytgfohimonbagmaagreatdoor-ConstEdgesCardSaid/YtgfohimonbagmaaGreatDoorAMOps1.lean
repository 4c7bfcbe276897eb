/- Operands, constants, loads and stores of the abstract machine are those of the model. -/
import Derived.Test.YtgfohimonbagmaaGreatDoorAMWorld
import Derived.Test.YtgfohimonbagmaaGreatDoorAMComp
namespace Go.AM
open Go.RowKit (Below)

theorem cV_rel {m : M} {c v x} (h : cV c v = some x) : Rel m x v := by
  unfold cV at h
  split at h <;> first
    | (obtain rfl := Option.some.inj h; first | exact .bool _ | exact .int _ _ | exact .flt _ _ | exact .str _ _ rfl | exact .nilp | exact .nilf | exact .nilmap
                                              | exact .intsn _ _ (fun _ e => by simpa using e) | exact .lstn _ _ (fun _ e => by simpa using e))
    | cases h

theorem cVs_rel {m : M} : ∀ {ts vs l}, cVs ts vs = some l → RelL m l vs
  | [], [], l, h => by simp [cVs] at h; subst h; exact .nil
  | [], _ :: _, l, h => by simp [cVs] at h
  | _ :: _, [], l, h => by simp [cVs] at h
  | t :: ts, v :: vs, l, h => by
    simp only [cVs] at h
    split at h
    · rename_i x hx
      split at h
      · rename_i l' hl
        obtain rfl := Option.some.inj h
        exact .cons (cV_rel hx) (cVs_rel hl)
      · cases h
    · cases h

theorem cV_isCell {c v x} (h : cV c v = some x) : x.isCell = true := by
  unfold cV at h
  split at h <;> first | (obtain rfl := Option.some.inj h; rfl) | cases h

theorem cVs_isCell : ∀ {ts vs l}, cVs ts vs = some l → ∀ x ∈ l, x.isCell = true
  | [], [], l, h => by simp [cVs] at h; subst h; simp
  | [], _ :: _, l, h => by simp [cVs] at h
  | _ :: _, [], l, h => by simp [cVs] at h
  | t :: ts, v :: vs, l, h => by
    simp only [cVs] at h
    split at h
    · rename_i x hx
      split at h
      · rename_i l' hl
        obtain rfl := Option.some.inj h
        intro y hy
        rcases List.mem_cons.1 hy with rfl | hy
        · exact cV_isCell hx
        · exact cVs_isCell hl y hy
      · cases h
    · cases h

theorem cC_rel {P : Program} {m : M} {t v x} (h : cC P t v = some x) : Rel m x v := by
  unfold cC at h
  split at h
  · obtain rfl := Option.some.inj h; exact .bool _
  · obtain rfl := Option.some.inj h; exact .int _ _
  · obtain rfl := Option.some.inj h; exact .flt _ _
  · obtain rfl := Option.some.inj h; exact .str _ _ rfl
  · split at h
    · split at h
      · rename_i l hl
        obtain rfl := Option.some.inj h
        exact rel_agg (cVs_rel hl)
      · cases h
    · cases h
  · split at h
    · exact cV_rel h
    · cases h

/-- Slots as they are. -/
structure EnvRel (m : M) (e : Env) (tmps : Array Value) : Prop where
  len : e.length = tmps.size
  get : ∀ i, Rel m (e.get i) (tmps.getD i undef)

theorem EnvRel.mono {m m' : M} (hm : m.Le m') {e tmps} (h : EnvRel m e tmps) : EnvRel m' e tmps := ⟨h.len, fun i => (h.get i).mono hm⟩

theorem Env.length_set (e : Env) (i : Nat) (v : V) : (e.set i v).length = e.length := by
  induction e generalizing i with
  | nil => cases i <;> rfl
  | cons x e ih => cases i with
    | zero => rfl
    | succ i => simp [Env.set, ih]

theorem Env.get_set (e : Env) (i j : Nat) (v : V) : (e.set i v).get j = if i = j ∧ i < e.length then v else e.get j := by
  induction e generalizing i j with
  | nil => cases i <;> cases j <;> simp [Env.set, Env.get]
  | cons x e ih => cases i with
    | zero => cases j with
      | zero => simp [Env.set, Env.get]
      | succ j => simp [Env.set, Env.get]
    | succ i => cases j with
      | zero => simp [Env.set, Env.get]
      | succ j => simp [Env.set, Env.get, ih]

theorem EnvRel.put {m : M} {e : Env} {a : Act} (h : EnvRel m e a.tmps) (d : Option Nat) {v v'} (hv : Rel m v v') : EnvRel m (e.put d v) (a.put d v').tmps := by
  cases d with
  | none => exact h
  | some d =>
    refine ⟨by simp [Env.put, Act.put, Env.length_set, h.len], fun i => ?_⟩
    simp only [Env.put, Act.put, Env.get_set, Array.getD_eq_getD_getElem?, Array.getElem?_setIfInBounds]
    by_cases hd : d = i
    · subst hd
      by_cases hl : d < e.length
      · rw [if_pos ⟨rfl, hl⟩, if_pos rfl, if_pos (by rw [← h.len]; exact hl)]
        simpa using hv
      · rw [if_neg (fun hx => hl hx.2), if_pos rfl, if_neg (by rw [← h.len]; exact hl)]
        have := h.get d
        rw [Array.getD_eq_getD_getElem?, Array.getElem?_eq_none (by rw [← h.len]; omega)] at this
        exact this
    · rw [if_neg (fun hx => hd hx.1), if_neg hd]
      have := h.get i
      rwa [Array.getD_eq_getD_getElem?] at this

theorem EnvRel.forget {m : M} {e : Env} {tmps : Array Value} (h : EnvRel m e tmps) (l : List Nat) : EnvRel m (e.forget l) tmps := by
  induction l generalizing e with
  | nil => exact h
  | cons i l ih =>
    refine ih ⟨by rw [Env.length_set]; exact h.len, fun j => ?_⟩
    rw [Env.get_set]
    split
    · exact .undef _
    · exact h.get j

/-- What operands come to. -/
def ORel (P : Program) (m : M) (e : Env) (ρ : Operand → Value) : Prop := ∀ x ty y, cO P ty x = some y → Rel m (ev e y) (ρ x)

theorem cO_rel {P : Program} {m : M} {e : Env} {a : Act} (h : EnvRel m e a.tmps) : ORel P m e a.eval := by
  intro x ty y hx
  cases x with
  | tmp i =>
    simp only [cO] at hx
    obtain rfl := Option.some.inj hx
    exact h.get i
  | const v =>
    simp only [cO] at hx
    split at hx
    · rename_i z hz
      obtain rfl := Option.some.inj hx
      exact cC_rel hz
    · cases hx
  | global g => simp [cO] at hx
  | func f =>
    simp only [cO] at hx
    obtain rfl := Option.some.inj hx
    exact .func f [] [] #[] #[] rfl rfl (fun j h => by simp at h) (fun j h => by simp at h)

theorem cOs_rel {P : Program} {m : M} {e : Env} {ρ : Operand → Value} (h : ORel P m e ρ) : ∀ {ts xs l}, cOs P ts xs = some l → RelL m (evs e l) (xs.map ρ)
  | [], [], l, hl => by simp [cOs] at hl; subst hl; exact .nil
  | [], _ :: _, l, hl => by simp [cOs] at hl
  | _ :: _, [], l, hl => by simp [cOs] at hl
  | t :: ts, x :: xs, l, hl => by
    simp only [cOs] at hl
    split at hl
    · rename_i y hy
      split at hl
      · rename_i l' hl'
        obtain rfl := Option.some.inj hl
        exact .cons (h x t y hy) (cOs_rel h hl')
      · cases hl
    · cases hl

theorem cOs0_rel {P : Program} {m : M} {e : Env} {ρ : Operand → Value} (h : ORel P m e ρ) : ∀ {xs l}, cOs0 P xs = some l → RelL m (evs e l) (xs.map ρ)
  | [], l, hl => by simp [cOs0] at hl; subst hl; exact .nil
  | x :: xs, l, hl => by
    simp only [cOs0] at hl
    split at hl
    · rename_i y hy
      split at hl
      · rename_i l' hl'
        obtain rfl := Option.some.inj hl
        exact .cons (h x 0 y hy) (cOs0_rel h hl')
      · cases hl
    · cases hl

/-! Loads. -/

theorem run_info {P : Program} {t : TypeId} {j : TypeInfo} (h : P.info? t = some j) (w : World) : (typeInfo t).run P w = .ok j w := by
  simp [typeInfo, h]
theorem run_size {P : Program} {t : TypeId} {j : TypeInfo} (h : P.info? t = some j) (w : World) : (sizeOf t).run P w = .ok j.size w := by
  simp [sizeOf, run_info h]
theorem run_agg {P : Program} {t : TypeId} (h : (P.underlying t).isSome = true) (w : World) : (isAgg t).run P w = .ok (isAggT P t) w := by
  obtain ⟨d, hd⟩ := Option.isSome_iff_exists.1 h
  cases d <;> simp [isAgg, isAggT, run_underlying hd, hd]

/-- From a place on the world's cells are those of a row. -/
def Cells (m : M) (w : World) (blk off : Nat) (get : Nat → Option V) : Prop :=
  ∀ i x, get i = some x → ∃ v, w.cell? ⟨blk, off + i, none⟩ = some v ∧ Rel m x v

theorem getN_cells {m : M} {w : World} {blk off : Nat} {rc : RC} (hc : Cells m w blk off rc.get) : ∀ {n i l}, rc.getN i n = some l →
    ∃ vs : List Value, RelL m l vs ∧ vs.length = n ∧ ∀ j v, vs[j]? = some v → w.cell? ⟨blk, off + i + j, none⟩ = some v
  | 0, i, l, h => by
    simp [RC.getN] at h; subst h
    exact ⟨[], .nil, rfl, fun j v hv => by simp at hv⟩
  | n + 1, i, l, h => by
    simp only [RC.getN] at h
    split at h
    · rename_i x hx
      split at h
      · rename_i l' hl'
        obtain rfl := Option.some.inj h
        obtain ⟨v, hv, hr⟩ := hc i x hx
        obtain ⟨vs, hvs, hn, hget⟩ := getN_cells hc hl'
        refine ⟨v :: vs, .cons hr hvs, by simp [hn], fun j u hu => ?_⟩
        cases j with
        | zero => simp at hu; subst hu; exact hv
        | succ j =>
          have := hget j u (by simpa using hu)
          rw [show off + i + (j + 1) = off + (i + 1) + j by omega]; exact this
      · cases h
    · cases h

theorem load_cells {P : Program} {m : M} {w : World} {t : TypeId} {j : TypeInfo} {blk off o : Nat} {rc : RC} {v : V} (hj : P.info? t = some j) (hu : (P.underlying t).isSome = true)
    (hc : Cells m w blk off rc.get) (h : (if isAggT P t then match rc.getN o j.size with | some l => some (.agg l) | none => none else rc.get o) = some v) :
    ∃ v', (Instr.loadAt t (.pointer (some ⟨blk, off + o, none⟩))).run P w = .ok v' w ∧ Rel m v v' := by
  have hrun : (Instr.loadAt t (.pointer (some ⟨blk, off + o, none⟩))).run P w = (loadVar t ⟨blk, off + o, none⟩).run P w := by simp [Instr.loadAt, Instr.sureAddr]
  rw [hrun]
  by_cases hagg : isAggT P t = true
  · rw [if_pos hagg] at h
    split at h
    · rename_i l hl
      obtain rfl := Option.some.inj h
      obtain ⟨vs, hvs, hn, hget⟩ := getN_cells hc hl
      refine ⟨.agg vs.toArray, ?_, rel_agg (by simpa using hvs)⟩
      have := run_loadCells_list (P := P) w ⟨blk, off + o, none⟩ vs (fun j v hv => by rw [Addr.add_lit]; exact hget j v hv)
      rw [hn] at this
      simp [loadVar, run_agg hu, hagg, run_size hj, this]
    · cases h
  · rw [if_neg hagg] at h
    obtain ⟨v', hv, hr⟩ := hc o v h
    exact ⟨v', by simp [loadVar, run_agg hu, hagg, load, Sem.run, hv], hr⟩

theorem Sim.cellsAt {m B h w} (hs : Sim m B h w) {b p r} (hb : m.φ b = some p) (hr : h.row b = some r) : Cells m w p.blk p.base r.c.get :=
  (hs.cells b p r hb hr).2.2

theorem Sim.dataCell {m B h w} (hs : Sim m B h w) {k cs} (hk : m.G k = some cs) (o : Nat) : w.cell? ⟨k, o, none⟩ = cs[o]? := by
  obtain ⟨el, fz, e⟩ := hs.ghost k cs hk
  exact cell_cells e

theorem loadV_sound {P : Program} {m B h w} {t : TypeId} {j : TypeInfo} {a : V} {va : Value} {v : V} (hs : Sim m B h w) (hj : P.info? t = some j) (hu : (P.underlying t).isSome = true)
    (ha : Rel m a va) (hl : loadV h (isAggT P t) j.size a = some v) : ∃ v', (Instr.loadAt t va).run P w = .ok v' w ∧ Rel m v v' := by
  cases ha with
  | ptr b o p hp =>
    simp only [loadV] at hl
    split at hl
    · rename_i r hr
      exact load_cells hj hu (hs.cellsAt hp hr) hl
    · cases hl
  | pint k zs i B off cs hG hc =>
    simp only [loadV] at hl
    split at hl
    · cases hl
    · rename_i hagg
      split at hl
      · rename_i hi
        obtain rfl := Option.some.inj hl
        have hi' : i < zs.length := by simpa using hi
        refine ⟨.int k zs[i], ?_, by rw [show zs.getD i 0 = zs[i] by simp [List.getD, hi']]; exact .int _ _⟩
        have hc' := hc i hi'
        rw [← hs.dataCell hG] at hc'
        simp [Instr.loadAt, Instr.sureAddr, loadVar, run_agg hu, hagg, load, Sem.run, hc']
      · cases hl
  | plst xs i B off cs ws hG hc hr =>
    refine load_cells (rc := .cs xs) hj hu (fun q x hx => ?_) hl
    simp only [RC.get] at hx
    have hq : q < xs.length := (List.getElem?_eq_some_iff.1 hx).1
    refine ⟨ws q, by rw [hs.dataCell hG]; exact hc q hq, ?_⟩
    have := hr q hq
    rw [List.getElem?_eq_getElem hq] at hx
    rwa [Option.some.inj hx] at this
  | _ => simp [loadV] at hl

/-! Stores. -/

theorem RC.set_size {r r' : RC} {i v} (h : r.set i v = some r') : r'.size = r.size := by
  unfold RC.set at h
  split at h
  · split at h
    · obtain rfl := Option.some.inj h; simp [RC.size]
    · cases h
  · cases h
  · split at h
    · obtain rfl := Option.some.inj h; simp [RC.size]
    · cases h

theorem RC.set_get {r r' : RC} {i v} (h : r.set i v = some r') (j : Nat) : r'.get j = if j = i then some v else r.get j := by
  unfold RC.set at h
  split at h
  · rename_i k zs n k' q
    split at h
    · rename_i hk
      simp only [Bool.and_eq_true, beq_iff_eq, decide_eq_true_eq] at hk
      obtain ⟨rfl, hi⟩ := hk
      obtain rfl := Option.some.inj h
      simp only [RC.get, List.length_set]
      by_cases hj : j = i
      · subst hj; simp [hi, List.getD]
      · rw [if_neg hj]; simp [List.getD, List.getElem?_set_ne (fun x => hj x.symm)]
    · cases h
  · cases h
  · split at h
    · rename_i hk
      simp only [Bool.and_eq_true, decide_eq_true_eq] at hk
      obtain rfl := Option.some.inj h
      simp only [RC.get]
      by_cases hj : j = i
      · subst hj; simp [hk.1]
      · rw [if_neg hj, List.getElem?_set_ne (fun x => hj x.symm)]
    · cases h

theorem RC.set_lt {r r' : RC} {i v} (h : r.set i v = some r') : i < r.size ∧ v.isCell = true := by
  unfold RC.set at h
  split at h
  · split at h
    · rename_i hk; simp only [Bool.and_eq_true, decide_eq_true_eq] at hk; exact ⟨hk.2, rfl⟩
    · cases h
  · cases h
  · split at h
    · rename_i hk; simp only [Bool.and_eq_true, decide_eq_true_eq] at hk; exact hk
    · cases h

theorem RC.setN_size : ∀ {l : List V} {r r' : RC} {i}, r.setN i l = some r' → r'.size = r.size
  | [], r, r', i, h => by simp [RC.setN] at h; rw [h]
  | v :: l, r, r', i, h => by
    simp only [RC.setN] at h
    split at h
    · rename_i r1 h1; rw [RC.setN_size h, RC.set_size h1]
    · cases h

theorem RC.setN_lt : ∀ {l : List V} {r r' : RC} {i}, r.setN i l = some r' → (l ≠ [] → i + l.length ≤ r.size) ∧ ∀ v ∈ l, v.isCell = true
  | [], r, r', i, _ => ⟨fun h => absurd rfl h, by simp⟩
  | v :: l, r, r', i, h => by
    simp only [RC.setN] at h
    split at h
    · rename_i r1 h1
      obtain ⟨a, b⟩ := RC.set_lt h1
      obtain ⟨c, d⟩ := RC.setN_lt h
      refine ⟨fun _ => ?_, fun x hx => ?_⟩
      · rw [RC.set_size h1] at c
        cases l with
        | nil => simp; omega
        | cons y l => have := c (by simp); simp at this ⊢; omega
      · rcases List.mem_cons.1 hx with rfl | hx
        · exact b
        · exact d x hx
    · cases h

theorem RC.setN_get : ∀ {l : List V} {r r' : RC} {i}, r.setN i l = some r' → ∀ j, r'.get j = if i ≤ j ∧ j < i + l.length then l[j - i]? else r.get j
  | [], r, r', i, h, j => by simp [RC.setN] at h; rw [h, if_neg (by simp only [List.length_nil]; omega)]
  | v :: l, r, r', i, h, j => by
    simp only [RC.setN] at h
    split at h
    · rename_i r1 h1
      rw [RC.setN_get h j, RC.set_get h1 j]
      simp only [List.length_cons]
      by_cases a : i + 1 ≤ j ∧ j < i + 1 + l.length
      · rw [if_pos a, if_pos (by omega), show j - i = (j - (i + 1)) + 1 by omega]; simp
      · rw [if_neg a]
        by_cases b : j = i
        · subst b; rw [if_pos rfl, if_pos (by omega)]; simp
        · rw [if_neg b, if_neg (by omega)]
    · cases h

theorem cells_rel {m : M} {x : V} {v : Value} {l : List V} (hr : Rel m x v) (hl : x.cells = some l) : RelL m l v.cells.toList ∧ ∀ y ∈ l, y.isCell = true := by
  cases hr with
  | agg xs a hs hr =>
    simp only [V.cells] at hl
    split at hl
    · rename_i hall
      obtain rfl := Option.some.inj hl
      exact ⟨relL_of_agg (.agg xs a hs hr), fun y hy => List.all_eq_true.1 hall y hy⟩
    · cases hl
  | tup => simp [V.cells, V.isCell] at hl
  | undef => simp [V.cells, V.isCell] at hl
  | _ =>
    simp only [V.cells, V.isCell, if_true] at hl
    obtain rfl := Option.some.inj hl
    refine ⟨?_, by simp [V.isCell]⟩
    refine .cons ?_ .nil
    constructor <;> assumption

/-- WRITES OF CELLS IN A ROW. -/
theorem Sim.writes {P : Program} {m B h w b p r} (hs : Sim m B h w) (hb : m.φ b = some p) (hr : h.row b = some r) {i : Nat} {l : List V} {vs : List Value} {rc : RC}
    (hsz : rc.size = r.c.size) (hin : l ≠ [] → i + l.length ≤ r.c.size) (hget : ∀ j, rc.get j = if i ≤ j ∧ j < i + l.length then l[j - i]? else r.c.get j)
    (hcell : ∀ v ∈ l, v.isCell = true) (hl : RelL m l vs) :
    ∃ w', (storeCells ⟨p.blk, p.base + i, none⟩ vs 0).run P w = .ok () w' ∧ Sim m B (h.put b rc) w' ∧ Grows B m m h (h.put b rc) w w' := by
  obtain ⟨hB, hG, cs, el, fz, h0, hlim, hf⟩ := hs.own b p hb
  obtain ⟨_, hsize, hcells⟩ := hs.cells b p r hb hr
  have hlen := hl.length
  have hin' : vs ≠ [] → p.base + i + vs.length ≤ cs.size := fun hne => by
    have := hin (by intro e; subst e; cases hl; exact hne rfl)
    omega
  by_cases hne : vs = []
  · subst hne
    cases hl
    refine ⟨w, rfl, hs.write hb hr (Same.refl w) rfl (fun _ _ => rfl) cs cs el fz h0 h0 rfl rc hsz fun j x hx => ?_⟩
    rw [hget j, if_neg (by simp only [List.length_nil]; omega)] at hx
    obtain ⟨v, hv, hrel⟩ := hcells j x hx
    exact ⟨v, by rw [← cell_cells h0]; exact hv, hrel⟩
  · have hbound := hin' hne
    obtain ⟨w', cs', hrun, hsm, hs1, hoth, hk', hcs', hg⟩ := run_stores P p.blk (p.base + i) el fz vs 0 cs w h0 (fun j h1 h2 => hf _ (by omega)) (by omega) (fun v hv => by
      obtain ⟨n, hn, e⟩ := List.getElem_of_mem hv
      have := hl.get n (by omega) hn
      rw [e] at this
      exact isCell_shape this (hcell _ (List.getElem_mem _)))
    refine ⟨w', hrun, hs.write hb hr hsm hs1 hoth cs cs' el fz h0 hk' hcs' rc hsz fun j x hx => ?_⟩
    rw [hget j] at hx
    rw [hg]
    by_cases hj : i ≤ j ∧ j < i + l.length
    · rw [if_pos hj] at hx
      rw [if_pos (by omega), show p.base + j - (p.base + i + 0) = j - i by omega]
      have h1 : j - i < l.length := by omega
      have h2 : j - i < vs.length := by omega
      rw [List.getElem?_eq_getElem h1] at hx
      rw [List.getElem?_eq_getElem h2]
      exact ⟨_, rfl, by rw [← Option.some.inj hx]; exact hl.get _ h1 h2⟩
    · rw [if_neg hj] at hx
      rw [if_neg (by omega)]
      obtain ⟨v, hv, hrel⟩ := hcells j x hx
      exact ⟨v, by rw [← cell_cells h0]; exact hv, hrel⟩

theorem storeV_sound {P : Program} {m B h h' w} {t : TypeId} {j : TypeInfo} {a x : V} {va vx : Value} (hs : Sim m B h w) (hj : P.info? t = some j)
    (ha : Rel m a va) (hx : Rel m x vx) (hl : storeV h j.size a x = some h') :
    ∃ w', (Instr.storeAt t va vx).run P w = .ok () w' ∧ Sim m B h' w' ∧ Grows B m m h h' w w' := by
  cases ha with
  | ptr b o p hp =>
    simp only [storeV] at hl
    split at hl
    · rename_i r l hr hcs
      split at hl
      · rename_i hsz
        split at hl
        · rename_i rc hrc
          obtain rfl := Option.some.inj hl
          obtain ⟨h1, h2⟩ := cells_rel hx hcs
          obtain ⟨g1, g2⟩ := RC.setN_lt hrc
          obtain ⟨w', hrun, hsim⟩ := hs.writes (P := P) hp hr (RC.setN_size hrc) g1 (RC.setN_get hrc) g2 h1
          refine ⟨w', ?_, hsim⟩
          have hlen : vx.cells.size = j.size := by
            have := h1.length
            simp only [beq_iff_eq] at hsz
            simp at this; omega
          simp [Instr.storeAt, Instr.sureAddr, storeVar, run_size hj, hlen, hrun]
        · cases hl
      · cases hl
    · cases hl
  | _ => simp [storeV] at hl

end Go.AM
