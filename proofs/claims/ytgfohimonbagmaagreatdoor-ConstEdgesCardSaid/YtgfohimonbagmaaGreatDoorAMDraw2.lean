/- A region that draws its order: what an operation asks; a new row that is laid late; the order's checks laid open. -/
import Derived.Test.YtgfohimonbagmaaGreatDoorAMDraw
namespace Go.AM
open Go.RowKit (Below)

/-- What is known of an operation that is asked for. -/
theorem cOper_spec {P : Program} {T : Tab} {ih : Exec} {ops : Array Oper} {o : Oper} {e : Env} {h : H} {r : V × H} (hi : oper T ih e h (cOper P ops o).i = some r) :
    cI P o.type o.op = some (cOper P ops o).i := by
  unfold cOper at hi ⊢
  split at hi
  · cases hc : cI P o.type o.op with
    | none => rw [hc] at hi; simp [oper, iop] at hi
    | some i => rfl
  · split at hi
    · cases hc : cI P o.type o.op with
      | none => rw [hc] at hi; simp [oper, iop] at hi
      | some i => rfl
    · simp [oper, iop] at hi

theorem cOper_dst {P : Program} {ops : Array Oper} {o : Oper} : (cOper P ops o).dst = o.dst := by
  unfold cOper
  split
  · rfl
  · split <;> rfl

theorem wanted_asked {P : Program} {ops : Array Oper} {o : Oper} {m : M} {e : Env} {tmps : Array Value} (he : EnvRel m e tmps) {b : Bool} (ha : asked e (cOper P ops o).guard = some b)
    (hb : b = true → (cOper P ops o).i ≠ .bad) : Region.wanted o (yielded ops tmps) = b := by
  unfold cOper at ha hb
  unfold Region.wanted
  cases hg : o.guard with
  | none => rw [hg] at ha; simp only [asked] at ha; exact Option.some.inj ha
  | some g =>
    obtain ⟨j, want⟩ := g
    rw [hg] at ha hb
    dsimp only at ha hb ⊢
    cases hd : (ops[j]?).bind (·.dst) with
    | none =>
      rw [hd] at ha hb
      simp only [asked] at ha
      exact absurd rfl (hb (Option.some.inj ha).symm)
    | some d =>
      rw [hd] at ha
      simp only [asked] at ha
      have hr := he.get d
      unfold yielded
      rw [hd]
      simp only [Option.bind_some]
      rw [Array.getD_eq_getD_getElem?] at hr
      split at ha
      · rename_i b' hb'
        rw [hb'] at hr
        obtain rfl := Option.some.inj ha
        cases ht : tmps[d]? with
        | none => rw [ht] at hr; cases hr
        | some v =>
          rw [ht] at hr
          simp only [Option.getD_some] at hr
          cases hr
          simp
      · rename_i hb'
        rw [hb'] at hr
        obtain rfl := Option.some.inj ha
        cases ht : tmps[d]? with
        | none => rfl
        | some v =>
          rw [ht] at hr
          simp only [Option.getD_some] at hr
          cases hr
          rfl
      · cases ha

/-- A row that is known already is laid. -/
theorem Sim.mat {m B h w w'} (hs : Sim m B h w) (hsm : Same w w') {b : Nat} {r : Row} (hb : m.φ b = none) (hrow : h.rows[b]? = some r) (hdead : r.dead = false) (cs : Array Value) (el : TypeId) (fz : Nat × Nat)
    (hw : w'.heap = w.heap.push (.cells cs el fz)) (hf : ∀ o, o < cs.size → ¬ (fz.1 ≤ o ∧ o < fz.2)) (hr : RelL m r.c.toL (cs.toList.take r.c.size)) :
    Sim (m.at_ b ⟨w.heap.size, 0, cs.size, r.c.size⟩) B h w' := by
  have hlen := hr.length
  rw [RC.size_toL, List.length_take] at hlen
  have hsz : r.c.size ≤ cs.size := by rw [Array.length_toList] at hlen; omega
  have hr' : ∀ i x, r.c.get i = some x → ∃ v, cs[i]? = some v ∧ Rel m x v := fun i x hx => by
    rw [RC.get_toL] at hx
    obtain ⟨hi, rfl⟩ := List.getElem?_eq_some_iff.1 hx
    have hi' : i < (cs.toList.take r.c.size).length := by rw [← hr.length]; exact hi
    have := hr.get i hi hi'
    rw [List.length_take, Array.length_toList] at hi'
    refine ⟨cs[i]'(by omega), by simp, ?_⟩
    simpa using this
  have hle := M.at_le (p := ⟨w.heap.size, 0, cs.size, r.c.size⟩) hb
  have hnew : w'.heap[w.heap.size]? = some (.cells cs el fz) := by rw [hw]; simp
  have hold : ∀ k, k < w.heap.size → w'.heap[k]? = w.heap[k]? := fun k hk => by rw [hw]; exact heap_push_lt hk
  have hsize : w'.heap.size = w.heap.size + 1 := by rw [hw]; simp
  have hrow' : h.row b = some r := by unfold H.row; rw [hrow]; simp [hdead]
  have key : ∀ x p, (m.at_ b ⟨w.heap.size, 0, cs.size, r.c.size⟩).φ x = some p → (x = b ∧ p = ⟨w.heap.size, 0, cs.size, r.c.size⟩) ∨ (x ≠ b ∧ m.φ x = some p) := by
    intro x p e
    have e' : (if x = b then some (⟨w.heap.size, 0, cs.size, r.c.size⟩ : Pl) else m.φ x) = some p := e
    split at e'
    · rename_i hb; exact .inl ⟨hb, (Option.some.inj e').symm⟩
    · rename_i hb; exact .inr ⟨hb, e'⟩
  have oldlt : ∀ b p, m.φ b = some p → p.blk < w.heap.size := fun b p e => by
    obtain ⟨_, _, cs', el', fz', e', _⟩ := hs.own b p e
    exact lt_of_some e'
  refine ⟨by have := hs.bound; omega, ?_, ?_, ?_, ?_, ?_, hs.keepMaps hle rfl rfl (fun r es clk e => by rw [hold r (lt_of_some e)]; exact e), hs.keepInj rfl⟩
  · intro x p e
    rcases key x p e with ⟨rfl, _⟩ | ⟨_, e⟩
    · exact (List.getElem?_eq_some_iff.1 hrow).1
    · exact hs.dom x p e
  · intro x p e
    rcases key x p e with ⟨rfl, rfl⟩ | ⟨_, e⟩
    · refine ⟨hs.bound, ?_, cs, el, fz, hnew, rfl, fun o ho => ?_⟩
      · show m.G w.heap.size = none
        cases eg : m.G w.heap.size with
        | none => rfl
        | some x => obtain ⟨_, _, e2⟩ := hs.ghost _ _ eg; exact absurd (lt_of_some e2) (Nat.lt_irrefl _)
      · rw [frozen_cells (lo := fz.1) (hi := fz.2) hnew]
        have := hf o ho
        simp only [Bool.and_eq_false_iff, decide_eq_false_iff_not]
        omega
    · obtain ⟨h1, h2, cs', el', fz', h3, h4, h5⟩ := hs.own x p e
      refine ⟨h1, h2, cs', el', fz', ?_, h4, fun o ho => ?_⟩
      · rw [hold _ (oldlt x p e)]; exact h3
      · rw [← h5 o ho]; exact World.frozen?_of_block (w := w) (hold _ (oldlt x p e))
  · intro x p r' e hr2
    rcases key x p e with ⟨rfl, rfl⟩ | ⟨_, e⟩
    · rw [hrow'] at hr2
      obtain rfl := Option.some.inj hr2
      refine ⟨rfl, by simpa using hsz, fun i y hy => ?_⟩
      obtain ⟨v, hv, hrel⟩ := hr' i y hy
      refine ⟨v, ?_, hrel.mono hle⟩
      rw [cell_cells hnew]; simpa using hv
    · obtain ⟨a1, a2, a3⟩ := hs.cells x p r' e hr2
      refine ⟨a1, a2, fun i y hy => ?_⟩
      obtain ⟨v, hv, hrel⟩ := a3 i y hy
      exact ⟨v, (World.cell?_of_block (w := w) (hold _ (oldlt x p e))).trans hv, hrel.mono hle⟩
  · intro x x' p p' e e' h1 h2 hp
    rcases key x p e with ⟨rfl, rfl⟩ | ⟨hx, e1⟩
    · rcases key x' p' e' with ⟨rfl, rfl⟩ | ⟨hx', e'⟩
      · rfl
      · have := oldlt x' p' e'
        rw [← hp] at this; exact absurd this (Nat.lt_irrefl _)
    · rcases key x' p' e' with ⟨rfl, rfl⟩ | ⟨hx', e2⟩
      · have := oldlt x p e1
        rw [hp] at this; exact absurd this (Nat.lt_irrefl _)
      · exact hs.inj x x' p p' e1 e2 h1 h2 hp
  · intro k cs2 e
    obtain ⟨el2, fz2, e2⟩ := hs.ghost k cs2 e
    exact ⟨el2, fz2, by rw [hold _ (lt_of_some e2)]; exact e2⟩

/-- A row that no one lays yet. -/
theorem Sim.addRow {m B h w} (hs : Sim m B h w) (rc : RC) : Sim m B (h.new rc) w := by
  have hne : ∀ b p, m.φ b = some p → b ≠ h.next := fun b p e hb => by
    have := hs.dom b p e; rw [hb] at this; exact absurd this (Nat.lt_irrefl _)
  refine ⟨hs.bound, fun b p e => ?_, hs.own, fun b p r e hr => ?_, fun b b' p p' e e' h1 h2 hp => ?_, hs.ghost, hs.maps, hs.minj⟩
  · have := hs.dom b p e; simp only [H.new, List.length_append, List.length_singleton]; omega
  · rw [H.row_new, if_neg (hne b p e)] at hr; exact hs.cells b p r e hr
  · rw [H.row_new, if_neg (hne b p e)] at h1
    rw [H.row_new, if_neg (hne b' p' e')] at h2
    exact hs.inj b b' p p' e e' h1 h2 hp

theorem Grows.addRow {m B h w} (rc : RC) : Grows B m m h (h.new rc) w w := by
  refine ⟨M.Le.refl m, Below.refl B w, fun b hb e => ⟨e, ?_⟩, by simp [H.new], fun k hk => .inl hk⟩
  simp [H.new, List.getElem?_append_left hb]

theorem Env.set_comm : ∀ (e : Env) (i j : Nat) (v u : V), i ≠ j → (e.set i v).set j u = (e.set j u).set i v
  | [], i, j, _, _, _ => by cases i <;> cases j <;> rfl
  | x :: e, 0, 0, _, _, h => absurd rfl h
  | x :: e, 0, j + 1, _, _, _ => rfl
  | x :: e, i + 1, 0, _, _, _ => rfl
  | x :: e, i + 1, j + 1, v, u, h => by
    simp only [Env.set]
    rw [Env.set_comm e i j v u (fun x => h (by rw [x]))]

theorem Env.length_put (e : Env) (d : Option Nat) (v : V) : (e.put d v).length = e.length := by
  cases d with
  | none => rfl
  | some d => exact Env.length_set e d v

theorem Env.put_get (e : Env) (d : Option Nat) (v : V) (t : Nat) (h : d ≠ some t) : (e.put d v).get t = e.get t := by
  cases d with
  | none => rfl
  | some d =>
    simp only [Env.put, Env.get_set]
    rw [if_neg]
    rintro ⟨rfl, _⟩
    exact h rfl

theorem Env.put_comm (e : Env) (d d' : Option Nat) (v u : V) (h : ∀ t, d = some t → d' ≠ some t) : (e.put d v).put d' u = (e.put d' u).put d v := by
  cases d with
  | none => rfl
  | some i =>
    cases d' with
    | none => rfl
    | some j => exact Env.set_comm e i j v u fun x => h i rfl (by rw [x])

/-- The checks of an order, laid open. -/
structure OrdOK (K : FuncId → Option (List V → Option V)) (P : Program) (ops : Array Oper) (ord : List Nat) : Prop where
  len : ord.length = ops.size
  lt : ∀ i ∈ ord, i < ops.size
  mem : ∀ i, i < ops.size → i ∈ ord
  nodup : ord.Nodup
  edges : ∀ i, i < ops.size → ∀ e ∈ edgesAt ops i, e < ops.size
  pair : ∀ p q (hp : p < ord.length) (hq : q < ord.length), p < q → Reach (edgesAt ops) ord[p] ord[q] ∨
    (disj (opAt P ops ord[p]).dst (opAt P ops ord[q]).names = true ∧ disj (opAt P ops ord[q]).dst (opAt P ops ord[p]).names = true ∧ (opAt P ops ord[p]).i.isE K = false)
  ahead : ∀ p q (hp : p < ord.length) (hq : q < ord.length), ord[p] ∈ edgesAt ops ord[q] → p < q

theorem pairsOk_spec {f : Nat → Nat → Bool} : ∀ {l : List Nat}, pairsOk f l = true → ∀ p q (hp : p < l.length) (hq : q < l.length), p < q → f l[p] l[q] = true
  | [], _, p, q, hp, _, _ => by simp at hp
  | i :: r, h, p, q, hp, hq, hlt => by
    simp only [pairsOk, Bool.and_eq_true] at h
    cases q with
    | zero => omega
    | succ q =>
      cases p with
      | zero => exact List.all_eq_true.1 h.1 _ (List.getElem_mem ..)
      | succ p => exact pairsOk_spec h.2 p q (by simpa using hp) (by simpa using hq) (by omega)

theorem predOk_spec {edges : Nat → List Nat} : ∀ {l done : List Nat}, predOk edges l done = true → l.Nodup ∧ (∀ x ∈ l, x ∉ done) ∧ (∀ q (hq : q < l.length), ∀ e ∈ edges l[q], e ∈ done ∨ ∃ p, ∃ hp : p < q, l[p]'(by omega) = e)
  | [], done, _ => ⟨List.nodup_nil, by simp, fun q hq => by simp at hq⟩
  | i :: r, done, h => by
    simp only [predOk, Bool.and_eq_true, Bool.not_eq_true'] at h
    obtain ⟨⟨h1, h2⟩, h3⟩ := h
    obtain ⟨a, b, c⟩ := predOk_spec h3
    refine ⟨List.nodup_cons.2 ⟨fun hm => b i hm (List.mem_cons_self ..), a⟩, fun x hx => ?_, fun q hq e he => ?_⟩
    · rcases List.mem_cons.1 hx with rfl | hx
      · simpa using h2
      · exact fun hd => b x hx (List.mem_cons_of_mem _ hd)
    · cases q with
      | zero => exact .inl (by simpa using List.all_eq_true.1 h1 e he)
      | succ q =>
        rcases c q (by simpa using hq) e he with h | ⟨p, hp, h⟩
        · rcases List.mem_cons.1 h with rfl | h
          · exact .inr ⟨0, by omega, rfl⟩
          · exact .inl h
        · exact .inr ⟨p + 1, by omega, h⟩

theorem nodup_inj {l : List Nat} (h : l.Nodup) {p q : Nat} (hp : p < l.length) (hq : q < l.length) (e : l[p] = l[q]) : p = q :=
  by
  rcases Nat.lt_trichotomy p q with hl | hl | hl
  · exact absurd e (List.pairwise_iff_getElem.1 h p q hp hq hl)
  · exact hl
  · exact absurd e.symm (List.pairwise_iff_getElem.1 h q p hq hp hl)

theorem okD_spec {K : FuncId → Option (List V → Option V)} {P : Program} {ops : Array Oper} {ord : List Nat} (h : okD K P ops ord = true) :
    OrdOK K P ops ord ∧ ∀ mixed t, ValidL (edgesAt ops) ops.size (fun _ => false) (Region.schedule mixed ops t) ∧ ∀ i, i < ops.size → i ∈ Region.schedule mixed ops t := by
  simp only [okD, Bool.and_eq_true, beq_iff_eq] at h
  obtain ⟨⟨⟨⟨⟨h1, h2⟩, h3⟩, h4⟩, h5⟩, h6⟩ := h
  obtain ⟨a, _, c⟩ := predOk_spec h4
  have hlt : ∀ i ∈ ord, i < ops.size := fun i hi => by simpa using List.all_eq_true.1 h2 i hi
  have hmem : ∀ i, i < ops.size → i ∈ ord := fun i hi => by simpa using List.all_eq_true.1 h3 i (List.mem_range.2 hi)
  refine ⟨⟨h1, hlt, hmem, a, fun i hi e he => ?_, fun p q hp hq hpq => ?_, fun p q hp hq he => ?_⟩, fun mixed t => ?_⟩
  · obtain ⟨q, hq, rfl⟩ := List.getElem_of_mem (hmem i hi)
    rcases c q hq e he with h | ⟨p, hp, rfl⟩
    · cases h
    · exact hlt _ (List.getElem_mem ..)
  · have := pairsOk_spec h5 p q hp hq hpq
    simp only [Bool.or_eq_true, Bool.and_eq_true, Bool.not_eq_true'] at this
    rcases this with h | ⟨⟨h1, h2⟩, h3⟩
    · exact .inl (reachN_spec (hlt _ (List.getElem_mem ..)) h)
    · exact .inr ⟨h1, h2, h3⟩
  · rcases c q hq _ he with h | ⟨p', hp', e⟩
    · cases h
    · have := nodup_inj a (by omega) hp e
      omega
  · simp only [Bool.or_eq_true] at h6
    rcases h6 with h6 | h6
    · exact schedule_back h6 mixed t
    · simp only [lineOk, Bool.and_eq_true, beq_iff_eq] at h6
      exact schedule_all h6.1.1 h6.1.2 h6.2 mixed t

theorem disj_spec {d : Option Nat} {l : List Nat} (h : disj d l = true) {t : Nat} (ht : t ∈ l) : d ≠ some t := by
  rintro rfl
  simp [disj, ht] at h

end Go.AM
