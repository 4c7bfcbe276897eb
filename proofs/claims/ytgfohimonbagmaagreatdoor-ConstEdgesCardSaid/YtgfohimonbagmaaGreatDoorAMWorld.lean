/- What a new block, a store, a load do to the relation between the abstract heap and the world. -/
import Derived.Test.YtgfohimonbagmaaGreatDoorAMRel
namespace Go.AM
open Go.RowKit (Below)

/-- A row is laid at a place of a block. -/
def M.at_ (m : M) (b : Nat) (p : Pl) : M := ⟨fun x => if x = b then some p else m.φ x, m.G, m.μ⟩

theorem M.at_le {m : M} {b : Nat} {p : Pl} (h : m.φ b = none) : m.Le (m.at_ b p) :=
  ⟨fun x q e => by
    show (if x = b then some p else m.φ x) = some q
    split
    · rename_i hx; subst hx; rw [h] at e; cases e
    · exact e, fun _ _ e => e, fun _ _ e => e⟩

theorem Sim.fresh {m B h w} (hs : Sim m B h w) : m.φ h.next = none := by
  cases e : m.φ h.next with
  | none => rfl
  | some p => exact absurd (hs.dom _ _ e) (Nat.lt_irrefl _)

theorem H.row_new (h : H) (c : RC) (b : Nat) : (h.new c).row b = if b = h.next then some ⟨c, h.clk, false⟩ else h.row b := by
  unfold H.row H.new H.next
  simp only [List.getElem?_append]
  by_cases hb : b < h.rows.length
  · rw [if_pos hb, if_neg (by omega)]
  · rw [if_neg hb]
    by_cases hb' : b = h.rows.length
    · subst hb'; simp
    · rw [if_neg hb', List.getElem?_eq_none (by simp; omega), List.getElem?_eq_none (by omega)]

theorem H.row_put (h : H) (b : Nat) (c : RC) (b' : Nat) (hb : (h.row b).isSome) : (h.put b c).row b' = if b' = b then some ⟨c, h.clk, false⟩ else h.row b' := by
  unfold H.row H.put at *
  have hl : b < h.rows.length := by
    rcases Nat.lt_or_ge b h.rows.length with hl | hl
    · exact hl
    · rw [List.getElem?_eq_none hl] at hb; simp at hb
  simp only [List.getElem?_set]
  by_cases e : b' = b
  · subst e; simp [hl]
  · rw [if_neg (fun x => e x.symm), if_neg e]

theorem H.row_kill (h : H) (b b' : Nat) : (h.kill b).row b' = if b' = b then none else h.row b' := by
  unfold H.row H.kill
  simp only [List.getElem?_set]
  by_cases e : b' = b
  · subst e; rw [if_pos rfl, if_pos rfl]
    by_cases hl : b' < h.rows.length
    · rw [if_pos hl]; rfl
    · rw [if_neg hl]
  · rw [if_neg (fun x => e x.symm), if_neg e]

theorem H.row_lt {h : H} {b : Nat} {r : Row} (e : h.row b = some r) : b < h.rows.length := by
  unfold H.row at e
  rcases Nat.lt_or_ge b h.rows.length with hl | hl
  · exact hl
  · rw [List.getElem?_eq_none hl] at e; simp at e

theorem below_of {B : Nat} {w w' : World} (ho : w'.os = w.os) (ht : w'.tape = w.tape) (hp : w'.output = w.output) (hs : w.heap.size ≤ w'.heap.size) (hb : ∀ k, k < B → w'.heap[k]? = w.heap[k]?) : Below B w w' := ⟨ho, ht, hp, hs, hb⟩

/-- The streams and the tape are as they were. -/
structure Same (w w' : World) : Prop where
  os : w'.os = w.os
  tape : w'.tape = w.tape
  output : w'.output = w.output

theorem Same.refl (w : World) : Same w w := ⟨rfl, rfl, rfl⟩
theorem Same.trans {a b c : World} (h : Same a b) (k : Same b c) : Same a c := ⟨k.os.trans h.os, k.tape.trans h.tape, k.output.trans h.output⟩

theorem heap_push_lt {w : World} {o : Obj} {k : Nat} (h : k < w.heap.size) : (w.heap.push o)[k]? = w.heap[k]? := by
  rw [Array.getElem?_push, if_neg (by omega)]

theorem lt_of_some {w : World} {k : Nat} {o : Obj} (h : w.heap[k]? = some o) : k < w.heap.size := by
  rcases Nat.lt_or_ge k w.heap.size with hl | hl
  · exact hl
  · rw [Array.getElem?_eq_none hl] at h; cases h

theorem frozen_cells {w : World} {k o : Nat} {cs el lo hi} (h : w.heap[k]? = some (.cells cs el (lo, hi))) : w.frozen? ⟨k, o, none⟩ = (decide (lo ≤ o) && decide (o < hi)) := by
  simp [World.frozen?, h]

theorem cell_cells {w : World} {k o : Nat} {cs el fz} (h : w.heap[k]? = some (.cells cs el fz)) : w.cell? ⟨k, o, none⟩ = cs[o]? := by
  simp [World.cell?, h]

/-- A NEW BLOCK. -/
theorem Sim.new {m B h w w'} (hs : Sim m B h w) (hsm : Same w w') (rc : RC) (cs : Array Value) (el : TypeId) (fz : Nat × Nat)
    (hw : w'.heap = w.heap.push (.cells cs el fz)) (hf : ∀ o, o < cs.size → ¬ (fz.1 ≤ o ∧ o < fz.2))
    (hsz : rc.size ≤ cs.size) (hr : ∀ i x, rc.get i = some x → ∃ v, cs[i]? = some v ∧ Rel m x v) :
    Sim (m.at_ h.next ⟨w.heap.size, 0, cs.size, rc.size⟩) B (h.new rc) w' ∧ Grows B m (m.at_ h.next ⟨w.heap.size, 0, cs.size, rc.size⟩) h (h.new rc) w w' := by
  have hle := M.at_le (p := ⟨w.heap.size, 0, cs.size, rc.size⟩) hs.fresh
  have hlen : (h.new rc).rows.length = h.rows.length + 1 := by simp [H.new]
  have hnew : w'.heap[w.heap.size]? = some (.cells cs el fz) := by rw [hw]; simp
  have hold : ∀ k, k < w.heap.size → w'.heap[k]? = w.heap[k]? := fun k hk => by rw [hw]; exact heap_push_lt hk
  have hsize : w'.heap.size = w.heap.size + 1 := by rw [hw]; simp
  have key : ∀ b p, (m.at_ h.next ⟨w.heap.size, 0, cs.size, rc.size⟩).φ b = some p → (b = h.next ∧ p = ⟨w.heap.size, 0, cs.size, rc.size⟩) ∨ (b ≠ h.next ∧ m.φ b = some p) := by
    intro b p e
    have e' : (if b = h.next then some (⟨w.heap.size, 0, cs.size, rc.size⟩ : Pl) else m.φ b) = some p := e
    split at e'
    · rename_i hb; exact .inl ⟨hb, (Option.some.inj e').symm⟩
    · rename_i hb; exact .inr ⟨hb, e'⟩
  have oldlt : ∀ b p, m.φ b = some p → p.blk < w.heap.size := fun b p e => by
    obtain ⟨_, _, cs', el', fz', e', _⟩ := hs.own b p e
    exact lt_of_some e'
  refine ⟨⟨by have := hs.bound; omega, ?_, ?_, ?_, ?_, ?_, hs.keepMaps hle rfl rfl (fun r es clk e => by rw [hold r (lt_of_some e)]; exact e), hs.keepInj rfl⟩, ⟨hle, below_of hsm.os hsm.tape hsm.output (by omega) (fun k hk => hold k (by have := hs.bound; omega)), ?_, by omega, fun k hk => .inl hk⟩⟩
  · intro b p e
    rcases key b p e with ⟨rfl, _⟩ | ⟨_, e⟩
    · rw [hlen]; exact Nat.lt_succ_self _
    · have := hs.dom b p e; omega
  · intro b p e
    rcases key b p e with ⟨rfl, rfl⟩ | ⟨_, e⟩
    · refine ⟨hs.bound, ?_, cs, el, fz, hnew, rfl, fun o ho => ?_⟩
      · show m.G w.heap.size = none
        cases eg : m.G w.heap.size with
        | none => rfl
        | some x => obtain ⟨_, _, e2⟩ := hs.ghost _ _ eg; exact absurd (lt_of_some e2) (Nat.lt_irrefl _)
      · rw [frozen_cells (lo := fz.1) (hi := fz.2) hnew]
        have := hf o ho
        simp only [Bool.and_eq_false_iff, decide_eq_false_iff_not]
        omega
    · obtain ⟨h1, h2, cs', el', fz', h3, h4, h5⟩ := hs.own b p e
      refine ⟨h1, h2, cs', el', fz', ?_, h4, fun o ho => ?_⟩
      · rw [hold _ (oldlt b p e)]; exact h3
      · rw [← h5 o ho]; exact World.frozen?_of_block (w := w) (hold _ (oldlt b p e))
  · intro b p r e hrow
    rw [H.row_new] at hrow
    rcases key b p e with ⟨rfl, rfl⟩ | ⟨hb, e⟩
    · rw [if_pos rfl] at hrow
      obtain rfl := (Option.some.inj hrow).symm
      refine ⟨rfl, by simpa using hsz, fun i x hx => ?_⟩
      obtain ⟨v, hv, hrel⟩ := hr i x hx
      refine ⟨v, ?_, hrel.mono hle⟩
      rw [cell_cells hnew]; simpa using hv
    · rw [if_neg hb] at hrow
      obtain ⟨h0, h1, h2⟩ := hs.cells b p r e hrow
      refine ⟨h0, h1, fun i x hx => ?_⟩
      obtain ⟨v, hv, hrel⟩ := h2 i x hx
      exact ⟨v, (World.cell?_of_block (w := w) (hold _ (oldlt b p e))).trans hv, hrel.mono hle⟩
  · intro b b' p p' e e' hb hb' hp
    rw [H.row_new] at hb hb'
    rcases key b p e with ⟨rfl, rfl⟩ | ⟨hn, e⟩
    · rcases key b' p' e' with ⟨rfl, _⟩ | ⟨hn', e'⟩
      · rfl
      · have := oldlt b' p' e'; simp at hp; omega
    · rcases key b' p' e' with ⟨rfl, rfl⟩ | ⟨hn', e'⟩
      · have := oldlt b p e; simp at hp; omega
      · rw [if_neg hn] at hb; rw [if_neg hn'] at hb'
        exact hs.inj b b' p p' e e' hb hb' hp
  · intro k cs' e
    obtain ⟨el', fz', e2⟩ := hs.ghost k cs' e
    exact ⟨el', fz', by rw [hold _ (lt_of_some e2)]; exact e2⟩
  · intro b hb e
    refine ⟨?_, ?_⟩
    · show (if b = h.next then some (⟨w.heap.size, 0, cs.size, rc.size⟩ : Pl) else m.φ b) = none
      rw [if_neg (by simp [H.next]; omega)]; exact e
    · simp only [H.new]; rw [List.getElem?_append_left hb]

/-- A WRITE into the block of a row. -/
theorem Sim.write {m B h w w' b p r} (hs : Sim m B h w) (hb : m.φ b = some p) (hr : h.row b = some r) (hsm : Same w w')
    (hsize : w'.heap.size = w.heap.size) (hother : ∀ k, k ≠ p.blk → w'.heap[k]? = w.heap[k]?)
    (cs cs' : Array Value) (el fz) (h0 : w.heap[p.blk]? = some (.cells cs el fz)) (h1 : w'.heap[p.blk]? = some (.cells cs' el fz)) (hcs : cs'.size = cs.size)
    (rc : RC) (hsz : rc.size = r.c.size) (hc : ∀ i x, rc.get i = some x → ∃ v, cs'[p.base + i]? = some v ∧ Rel m x v) :
    Sim m B (h.put b rc) w' ∧ Grows B m m h (h.put b rc) w w' := by
  have hlen : (h.put b rc).rows.length = h.rows.length := by simp [H.put]
  have hrow := fun b' => H.row_put h b rc b' (by rw [hr]; rfl)
  obtain ⟨hB, _⟩ := hs.own b p hb
  refine ⟨⟨by have := hs.bound; omega, ?_, ?_, ?_, ?_, ?_, hs.keepMaps (M.Le.refl m) rfl rfl (fun r es clk e => by rw [hother r (fun hx => by rw [hx, h0] at e; cases e)]; exact e), hs.minj⟩, ⟨M.Le.refl m, below_of hsm.os hsm.tape hsm.output (by omega) (fun k hk => hother k (by omega)), ?_, by omega, fun k hk => .inl hk⟩⟩
  · intro b' p' e; rw [hlen]; exact hs.dom b' p' e
  · intro b' p' e
    obtain ⟨a1, a2, cs2, el2, fz2, a3, a4, a5⟩ := hs.own b' p' e
    by_cases hk : p'.blk = p.blk
    · rw [hk] at a3 a5 ⊢
      rw [h0] at a3
      obtain ⟨rfl, rfl, rfl⟩ : cs = cs2 ∧ el = el2 ∧ fz = fz2 := by simpa using a3
      refine ⟨hB, by rw [← hk]; exact a2, cs', el, fz, h1, by rw [hcs, a4], fun o ho => ?_⟩
      have := a5 o ho
      obtain ⟨lo, hi⟩ := fz
      rw [frozen_cells h0] at this
      rw [frozen_cells h1]; exact this
    · exact ⟨a1, a2, cs2, el2, fz2, by rw [hother _ hk]; exact a3, a4, fun o ho => by rw [← a5 o ho]; exact World.frozen?_of_block (w := w) (hother _ hk)⟩
  · intro b' p' r' e hr'
    rw [hrow] at hr'
    by_cases hbb : b' = b
    · subst hbb
      rw [hb] at e; obtain rfl := Option.some.inj e
      rw [if_pos rfl] at hr'
      obtain rfl := (Option.some.inj hr').symm
      obtain ⟨g1, g2, _⟩ := hs.cells _ p r hb hr
      refine ⟨hsz.trans g1, by rw [hsz]; exact g2, fun i x hx => ?_⟩
      obtain ⟨v, hv, hrel⟩ := hc i x hx
      exact ⟨v, by rw [cell_cells h1]; exact hv, hrel⟩
    · rw [if_neg hbb] at hr'
      have hk : p'.blk ≠ p.blk := fun hk => hbb (hs.inj b' b p' p e hb (by rw [hr']; rfl) (by rw [hr]; rfl) hk)
      obtain ⟨a0, a1, a2⟩ := hs.cells b' p' r' e hr'
      exact ⟨a0, a1, fun i x hx => by
        obtain ⟨v, hv, hrel⟩ := a2 i x hx
        exact ⟨v, (World.cell?_of_block (w := w) (hother _ hk)).trans hv, hrel⟩⟩
  · intro b1 b2 p1 p2 e1 e2 r1 r2 hp
    refine hs.inj b1 b2 p1 p2 e1 e2 ?_ ?_ hp
    · rw [hrow] at r1; split at r1
      · rename_i hx; rw [hx, hr]; rfl
      · exact r1
    · rw [hrow] at r2; split at r2
      · rename_i hx; rw [hx, hr]; rfl
      · exact r2
  · intro k cs2 e
    obtain ⟨el2, fz2, e2⟩ := hs.ghost k cs2 e
    have hk : k ≠ p.blk := fun hk => by
      obtain ⟨_, a2, _⟩ := hs.own b p hb
      rw [hk, a2] at e; cases e
    exact ⟨el2, fz2, by rw [hother _ hk]; exact e2⟩
  · intro b' hb' e
    refine ⟨e, ?_⟩
    have : b' ≠ b := fun hx => by rw [hx, hb] at e; cases e
    simp only [H.put]; rw [List.getElem?_set_ne (fun x => this x.symm)]

/-- Stores of cells in a row. -/
theorem run_stores (P : Program) (k o : Nat) (el : TypeId) (fz : Nat × Nat) : ∀ (vs : List Value) (i : Nat) (cs : Array Value) (w : World),
    w.heap[k]? = some (.cells cs el fz) → (∀ j, i ≤ j → j < i + vs.length → w.frozen? ⟨k, o + j, none⟩ = false) → o + i + vs.length ≤ cs.size → (∀ v ∈ vs, (∀ a, v ≠ .agg a) ∧ (∀ a, v ≠ .tuple a)) →
    ∃ w' cs', (storeCells ⟨k, o, none⟩ vs i).run P w = .ok () w' ∧ Same w w' ∧ w'.heap.size = w.heap.size ∧ (∀ x, x ≠ k → w'.heap[x]? = w.heap[x]?) ∧ w'.heap[k]? = some (.cells cs' el fz) ∧ cs'.size = cs.size ∧
      (∀ j, cs'[j]? = if o + i ≤ j ∧ j < o + i + vs.length then vs[j - (o + i)]? else cs[j]?) := by
  intro vs
  induction vs with
  | nil =>
    intro i cs w hk _ _ _
    refine ⟨w, cs, rfl, Same.refl w, rfl, fun _ _ => rfl, hk, rfl, fun j => ?_⟩
    rw [if_neg (by simp only [List.length_nil]; omega)]
  | cons v vs ih =>
    intro i cs w hk hf hsz hv
    have hcell : w.cell? ⟨k, o + i, none⟩ = some (cs[o + i]'(by simp at hsz; omega)) := by
      rw [cell_cells hk]; simp at hsz; exact Array.getElem?_eq_getElem _
    have hfz : w.frozen? ⟨k, o + i, none⟩ = false := hf i (Nat.le_refl _) (by simp)
    have hklt := lt_of_some hk
    have hset : (w.setCell ⟨k, o + i, none⟩ v).heap[k]? = some (.cells (cs.setIfInBounds (o + i) v) el fz) := by
      simp [World.setCell, Array.getElem?_modify, hk]
    obtain ⟨w', cs', hrun, hsm, hs1, ho, hk', hcs', hget⟩ := ih (i + 1) (cs.setIfInBounds (o + i) v) (w.setCell ⟨k, o + i, none⟩ v) hset
      (fun j h1 h2 => by rw [World.frozen?_setCell]; exact hf j (by omega) (by simp; omega)) (by simp at hsz ⊢; omega) (fun x hx => hv x (List.mem_cons_of_mem _ hx))
    obtain ⟨hv1, hv2⟩ := hv v (List.mem_cons_self ..)
    refine ⟨w', cs', ?_, ⟨hsm.os, hsm.tape, hsm.output⟩, by rw [hs1]; simp, fun x hx => ?_, hk', by rw [hcs']; simp, fun j => ?_⟩
    · rw [storeCells]
      have : (store (Addr.add ⟨k, o, none⟩ i) v).run P w = .ok () (w.setCell ⟨k, o + i, none⟩ v) := by
        rw [Addr.add_lit]
        cases v <;> first | (exact absurd rfl (hv1 _)) | (exact absurd rfl (hv2 _)) | (simp [store, Sem.run, hcell, hfz])
      simp [Sem.run_bind, this, hrun]
    · rw [ho x hx]; exact Below.heap_setCell _ _ _ _ hx
    · rw [hget j]
      simp only [List.length_cons]
      by_cases h1 : o + (i + 1) ≤ j ∧ j < o + (i + 1) + vs.length
      · rw [if_pos h1, if_pos (by omega)]
        rw [show j - (o + i) = (j - (o + (i + 1))) + 1 by omega]; simp
      · rw [if_neg h1]
        by_cases h2 : j = o + i
        · subst h2
          rw [if_pos (by omega)]
          simp at hsz
          simp [show o + i < cs.size by omega]
        · rw [if_neg (by omega)]
          rw [Array.getElem?_setIfInBounds, if_neg (fun h => h2 h.symm)]

end Go.AM
