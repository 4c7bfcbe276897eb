/- Maps: those of the abstract machine are those of the model. -/
import Derived.Test.YtgfohimonbagmaaGreatDoorAMOps6
namespace Go.AM
open Go.RowKit (Below)

theorem run_getObj_map {P : Program} {w : World} {r : Nat} {es : Array MapEntry} {clock : Nat} (hb : w.heap[r]? = some (.map es clock)) : (getObj r).run P w = .ok (.map es clock) w := by
  simp [getObj, Sem.run, hb]
theorem run_setObj_map {P : Program} {w : World} {r : Nat} {es : Array MapEntry} {clock : Nat} (o : Obj) (hb : w.heap[r]? = some (.map es clock)) : (setObj r o).run P w = .ok () { w with heap := w.heap.setIfInBounds r o } := by
  simp [setObj, Sem.run, hb]

/-- What a type of keys is. -/
def KDesc : KT → TypeDesc → Prop
  | .int, .int _ => True
  | .str, .string => True
  | .bool, .bool => True
  | _, _ => False

theorem ktOf_spec {P : Program} {t : TypeId} {q : KT} (h : ktOf P t = some q) : ∃ d, P.underlying t = some d ∧ KDesc q d := by
  unfold ktOf at h
  split at h
  · rename_i k e; obtain rfl := Option.some.inj h; exact ⟨_, e, trivial⟩
  · rename_i e; obtain rfl := Option.some.inj h; exact ⟨_, e, trivial⟩
  · rename_i e; obtain rfl := Option.some.inj h; exact ⟨_, e, trivial⟩
  · cases h

theorem run_checkKey {P : Program} {w : World} {kt : TypeId} {d : TypeDesc} {q : KT} {k : Value} (hd : P.underlying kt = some d) (hk : KDesc q d) (e : Bool) (n : Nat) : (Instr.checkKey e (n + 1) kt k).run P w = .ok () w := by
  unfold Instr.checkKey
  simp only [Sem.run_bind, run_underlying hd, Result.andThen]
  cases q <;> cases d <;> first | (exact absurd hk id) | (cases k <;> simp)

theorem str_beq {s t : ByteArray} {l l' : List Nat} (h : s.data.toList.map (·.toNat) = l) (h' : t.data.toList.map (·.toNat) = l') : (s == t) = (l == l') := by
  subst h; subst h'
  rw [← eq_bytes]
  obtain ⟨a⟩ := s
  obtain ⟨b⟩ := t
  have h1 : ((⟨a⟩ : ByteArray) == ⟨b⟩) = (a == b) := rfl
  rw [h1, Bool.eq_iff_iff]
  simp only [beq_iff_eq]
  exact ⟨fun e => by rw [e], fun e => Array.ext' e⟩

theorem keyEq_sound {m : M} {q : KT} {d : TypeDesc} (hd : KDesc q d) {a b : V} {va vb : Value} {r : Bool} (ha : Rel m a va) (hb : Rel m b vb) (h : keyEq q a b = some r) : Instr.sameNow d va vb = some r := by
  unfold keyEq at h
  split at h
  · split at h
    · rename_i k a' k' b' hk
      obtain rfl := Option.some.inj h
      have hk := eq_of_beq hk
      subst hk
      cases ha; cases hb
      cases d <;> first | (exact absurd hd id) | simp [Instr.sameNow]
    · cases h
  · obtain rfl := Option.some.inj h
    cases ha with
    | str s _ e =>
      cases hb with
      | str s' _ e' =>
        cases d <;> first | (exact absurd hd id) | (simp only [Instr.sameNow]; rw [str_beq e e'])
  · obtain rfl := Option.some.inj h
    cases ha; cases hb
    cases d <;> first | (exact absurd hd id) | simp [Instr.sameNow]
  · cases h

theorem mfind_sound {m : M} {q : KT} {d : TypeDesc} (hd : KDesc q d) {k : V} {vk : Value} (hk : Rel m k vk) : ∀ {l : List (V × V)} {es : List MapEntry} {i : Nat} {r}, EntL m l es → mfind q k l i = some r →
    (r = none ∧ Instr.findNow d vk es i = some none) ∨ ∃ j x e, r = some (i + j, x) ∧ es[j]? = some e ∧ (∃ a, l[j]? = some (a, x) ∧ keyEq q k a = some true ∧ Rel m a e.key) ∧ Rel m x e.val ∧ Instr.findNow d vk es i = some (some (i + j, e.val))
  | [], es, i, r, he, h => by
    cases he
    simp only [mfind] at h
    obtain rfl := Option.some.inj h
    exact .inl ⟨rfl, rfl⟩
  | p :: l, es, i, r, he, h => by
    cases he with
    | cons h1 h2 ht =>
      simp only [mfind] at h
      split at h
      · rename_i hq
        obtain rfl := Option.some.inj h
        refine .inr ⟨0, _, _, rfl, rfl, ⟨_, rfl, hq, h1⟩, h2, ?_⟩
        simp only [Instr.findNow]; rw [keyEq_sound hd hk h1 hq]; rfl
      · rename_i hq
        rcases mfind_sound hd hk ht h with ⟨rfl, g⟩ | ⟨j, x, e, rfl, g1, g2, g3, g4⟩
        · refine .inl ⟨rfl, ?_⟩
          simp only [Instr.findNow]; rw [keyEq_sound hd hk h1 hq]; exact g
        · refine .inr ⟨j + 1, x, e, by rw [show i + (j + 1) = i + 1 + j by omega], by simpa using g1, by simpa using g2, g3, ?_⟩
          simp only [Instr.findNow]; rw [keyEq_sound hd hk h1 hq, show i + (j + 1) = i + 1 + j by omega]; exact g4
      · cases h

theorem run_findKey {P : Program} {w : World} {kt : TypeId} {d : TypeDesc} {k : Value} {l : List MapEntry} {a : Option (Nat × Value)} (hd : P.underlying kt = some d) (h : Instr.findNow d k l 0 = some a) : (Instr.findKey kt k l).run P w = .ok a w := by
  simp [Instr.findKey, run_underlying hd, Result.andThen, h]

theorem EntL.length {m : M} {l es} (h : EntL m l es) : l.length = es.length := by
  induction h with
  | nil => rfl
  | cons _ _ _ ih => simp [ih]

theorem EntL.set {m : M} {l es} (h : EntL m l es) {k x : V} {e : MapEntry} (hk : Rel m k e.key) (hx : Rel m x e.val) : ∀ i, EntL m (l.set i (k, x)) (es.set i e) := by
  induction h with
  | nil => intro i; exact .nil
  | cons h1 h2 t ih => intro i; cases i with
    | zero => exact .cons hk hx t
    | succ i => exact .cons h1 h2 (ih i)

theorem EntL.snoc {m : M} {l es} (h : EntL m l es) {k x : V} {e : MapEntry} (hk : Rel m k e.key) (hx : Rel m x e.val) : EntL m (l ++ [(k, x)]) (es ++ [e]) := by
  induction h with
  | nil => exact .cons hk hx .nil
  | cons h1 h2 _ ih => exact .cons h1 h2 ih

/-- A map is written. -/
theorem Sim.setMap {m : M} {B h w} (hs : Sim m B h w) {b r : Nat} (hb : m.μ b = some r) {l : List (V × V)} {es es0 : Array MapEntry} {clk clk0 : Nat} (h0 : w.heap[r]? = some (.map es0 clk0)) (he : EntL m l es.toList) :
    Sim m B (h.setMap b l) { w with heap := w.heap.setIfInBounds r (.map es clk) } ∧ Grows B m m h (h.setMap b l) w { w with heap := w.heap.setIfInBounds r (.map es clk) } := by
  have hlt : r < w.heap.size := lt_of_some h0
  have hot : ∀ k, k ≠ r → (w.heap.setIfInBounds r (.map es clk))[k]? = w.heap[k]? := fun k hk => by
    rw [Array.getElem?_setIfInBounds, if_neg (fun e => hk e.symm)]
  have hnew : (w.heap.setIfInBounds r (.map es clk))[r]? = some (.map es clk) := by simp [hlt]
  have hblk : ∀ b p, m.φ b = some p → p.blk ≠ r := fun b p e hx => by
    obtain ⟨_, _, cs, el, fz, g, _⟩ := hs.own b p e
    rw [hx, h0] at g; cases g
  obtain ⟨hB, l0, _, _, hl0, _⟩ := hs.maps b r hb
  have hblt : b < h.maps.length := by
    rcases Nat.lt_or_ge b h.maps.length with hl | hl
    · exact hl
    · rw [List.getElem?_eq_none hl] at hl0; cases hl0
  refine ⟨⟨?_, hs.dom, ?_, ?_, hs.inj, ?_, ?_, hs.minj⟩, ⟨M.Le.refl m, below_of rfl rfl rfl ?_ (fun k hk => hot k (by omega)), fun b hb e => ⟨e, rfl⟩, Nat.le_refl _, fun k hk => .inl hk⟩⟩
  · show B ≤ (w.heap.setIfInBounds r (.map es clk)).size
    rw [Array.size_setIfInBounds]; exact hs.bound
  · intro b p e
    obtain ⟨a1, a2, cs2, el2, fz2, a3, a4, a5⟩ := hs.own b p e
    exact ⟨a1, a2, cs2, el2, fz2, (hot _ (hblk b p e)).trans a3, a4, fun o ho => by rw [← a5 o ho]; exact World.frozen?_of_block (w := w) (hot _ (hblk b p e))⟩
  · intro b p q e hr
    obtain ⟨a0, a1, a2⟩ := hs.cells b p q e hr
    refine ⟨a0, a1, fun i x hx => ?_⟩
    obtain ⟨v, hv, hrel⟩ := a2 i x hx
    exact ⟨v, (World.cell?_of_block (w := w) (hot _ (hblk b p e))).trans hv, hrel⟩
  · intro k cs e
    obtain ⟨el, fz, e2⟩ := hs.ghost k cs e
    exact ⟨el, fz, (hot k (fun hx => by rw [hx, h0] at e2; cases e2)).trans e2⟩
  · intro b' r' e
    by_cases hbb : b' = b
    · subst hbb
      rw [hb] at e; obtain rfl := Option.some.inj e
      exact ⟨hB, l, es, clk, by simp [H.setMap, hblt], hnew, he⟩
    · obtain ⟨g1, l', es', clk', g2, g3, g4⟩ := hs.maps b' r' e
      have : r' ≠ r := fun hx => hbb (hs.minj b' b r (by rw [e, hx]) hb)
      exact ⟨g1, l', es', clk', by simp only [H.setMap]; rw [List.getElem?_set_ne (fun x => hbb x.symm)]; exact g2, (hot _ this).trans g3, g4⟩
  · show w.heap.size ≤ (w.heap.setIfInBounds r (.map es clk)).size
    rw [Array.size_setIfInBounds]; exact Nat.le_refl _

def M.addMap (m : M) (b r : Nat) : M := ⟨m.φ, m.G, fun x => if x = b then some r else m.μ x⟩

/-- A new map. -/
theorem Sim.newMap {m : M} {B h w w'} (hs : Sim m B h w) (hsm : Same w w') (hw : w'.heap = w.heap.push (.map #[] 0)) :
    Sim (m.addMap h.maps.length w.heap.size) B h.newMap w' ∧ Grows B m (m.addMap h.maps.length w.heap.size) h h.newMap w w' := by
  have hfr : m.μ h.maps.length = none := by
    cases e : m.μ h.maps.length with
    | none => rfl
    | some r =>
      obtain ⟨_, l, _, _, g, _⟩ := hs.maps _ _ e
      rw [List.getElem?_eq_none (Nat.le_refl _)] at g; cases g
  have hle : m.Le (m.addMap h.maps.length w.heap.size) := ⟨fun _ _ e => e, fun _ _ e => e, fun b r e => by
    show (if b = h.maps.length then some w.heap.size else m.μ b) = some r
    split
    · rename_i hx; rw [hx, hfr] at e; cases e
    · exact e⟩
  have hold : ∀ k, k < w.heap.size → w'.heap[k]? = w.heap[k]? := fun k hk => by rw [hw]; exact heap_push_lt hk
  have hnew : w'.heap[w.heap.size]? = some (.map #[] 0) := by rw [hw]; simp
  have hsize : w'.heap.size = w.heap.size + 1 := by rw [hw]; simp
  have oldlt : ∀ b p, m.φ b = some p → p.blk < w.heap.size := fun b p e => by
    obtain ⟨_, _, cs', el', fz', e', _⟩ := hs.own b p e
    exact lt_of_some e'
  have hnone : ∀ b r, m.μ b = some r → r < w.heap.size := fun b r e => by
    obtain ⟨_, _, _, _, _, g, _⟩ := hs.maps b r e
    exact lt_of_some g
  refine ⟨⟨by have := hs.bound; omega, hs.dom, ?_, ?_, hs.inj, ?_, ?_, ?_⟩, ⟨hle, below_of hsm.os hsm.tape hsm.output (by omega) (fun k hk => hold k (by have := hs.bound; omega)), fun b hb e => ⟨e, rfl⟩, Nat.le_refl _, fun k hk => .inl hk⟩⟩
  · intro b p e
    obtain ⟨a1, a2, cs2, el2, fz2, a3, a4, a5⟩ := hs.own b p e
    exact ⟨a1, a2, cs2, el2, fz2, (hold _ (oldlt b p e)).trans a3, a4, fun o ho => by rw [← a5 o ho]; exact World.frozen?_of_block (w := w) (hold _ (oldlt b p e))⟩
  · intro b p q e hr
    obtain ⟨a0, a1, a2⟩ := hs.cells b p q e hr
    refine ⟨a0, a1, fun i x hx => ?_⟩
    obtain ⟨v, hv, hrel⟩ := a2 i x hx
    exact ⟨v, (World.cell?_of_block (w := w) (hold _ (oldlt b p e))).trans hv, hrel.mono hle⟩
  · intro k cs e
    obtain ⟨el, fz, e2⟩ := hs.ghost k cs e
    exact ⟨el, fz, (hold k (lt_of_some e2)).trans e2⟩
  · intro b r e
    have e' : (if b = h.maps.length then some w.heap.size else m.μ b) = some r := e
    split at e'
    · rename_i hb
      subst hb
      obtain rfl := Option.some.inj e'
      exact ⟨hs.bound, [], #[], 0, by simp [H.newMap], hnew, .nil⟩
    · obtain ⟨g1, l', es', clk', g2, g3, g4⟩ := hs.maps b r e'
      refine ⟨g1, l', es', clk', ?_, (hold _ (lt_of_some g3)).trans g3, g4.mono hle⟩
      have : b < h.maps.length := by
        rcases Nat.lt_or_ge b h.maps.length with hl | hl
        · exact hl
        · rw [List.getElem?_eq_none hl] at g2; cases g2
      show (h.maps ++ [[]])[b]? = _
      rw [List.getElem?_append_left this]; exact g2
  · intro b b' r e e'
    have e1 : (if b = h.maps.length then some w.heap.size else m.μ b) = some r := e
    have e2 : (if b' = h.maps.length then some w.heap.size else m.μ b') = some r := e'
    split at e1
    · split at e2
      · rename_i h1 h2; rw [h1, h2]
      · obtain rfl := Option.some.inj e1; exact absurd (hnone _ _ e2) (Nat.lt_irrefl _)
    · split at e2
      · obtain rfl := Option.some.inj e2; exact absurd (hnone _ _ e1) (Nat.lt_irrefl _)
      · exact hs.minj b b' r e1 e2

theorem cMakeMap_spec {P : Program} {ρ : Operand → Value} {t : TypeId} {r : Option Operand} {i : I} (h : cMakeMap P t r = some i) (hρ : ∀ k n, ρ (.const (.int k n)) = .int k n) :
    i = .mkmap ∧ ∀ w : World, (Instr.makeMap t (r.map ρ)).run P w = .ok (.map (some w.heap.size)) (w.alloc (.map #[] 0)) := by
  unfold cMakeMap at h
  split at h
  · obtain rfl := Option.some.inj h
    exact ⟨rfl, fun w => by simp [Instr.makeMap, newObj, Sem.run]⟩
  · split at h
    · rename_i h1
      obtain rfl := Option.some.inj h
      exact ⟨rfl, fun w => by simp [Instr.makeMap, newObj, Sem.run, run_underlying h1, hρ, asInt, asIntOf]⟩
    · cases h
  · cases h

theorem zeroV_sound {P : Program} {m : M} {t : TypeId} {v : V} (h : zeroV P t = some v) : ∃ z, (∀ w, (zeroValue t).run P w = .ok z w) ∧ Rel m v z := by
  unfold zeroV at h
  split at h
  · rename_i i l hi hl
    obtain ⟨j, z, hj, hz, hr, _, _⟩ := zeroL_sound (m := m) hl
    rw [hi] at hj
    obtain rfl := Option.some.inj hj
    refine ⟨z, run_zero hi hz, ?_⟩
    rw [hz] at h
    split at h
    · rename_i cs e
      obtain rfl := Option.some.inj e
      obtain rfl := Option.some.inj h
      exact rel_agg (by simpa [Value.cells] using hr)
    · rename_i z' hne e
      obtain rfl := Option.some.inj e
      split at h
      · obtain rfl := Option.some.inj h
        have : z.cells = #[z] := by
          cases z <;> first | rfl | exact absurd rfl (hne _)
        rw [this] at hr
        cases hr with
        | cons h1 _ => exact h1
      · cases h
    · cases h
  · cases h

theorem mentries_sound {P : Program} {m : M} {B h w} (hs : Sim m B h w) {x : V} {vx : Value} {l : List (V × V)} (hx : Rel m x vx) (h0 : mentries h x = some l) :
    (vx = .map none ∧ l = []) ∨ ∃ r es clk, vx = .map (some r) ∧ w.heap[r]? = some (.map es clk) ∧ EntL m l es.toList := by
  unfold mentries at h0
  split at h0
  · cases hx with
    | map _ r e =>
      obtain ⟨_, l', es, clk, g1, g2, g3⟩ := hs.maps _ r e
      rw [h0] at g1
      obtain rfl := Option.some.inj g1
      exact .inr ⟨r, es, clk, rfl, g2, g3⟩
  · obtain rfl := Option.some.inj h0
    cases hx
    exact .inl ⟨rfl, rfl⟩
  · cases h0

theorem mgetV_sound {P : Program} {m : M} {B h w} (hs : Sim m B h w) {t kt el : TypeId} {q : KT} {z x k v : V} {vx vk : Value} {ok : Bool} (hm : P.underlying t = some (.map kt el)) (hq : ktOf P kt = some q) (hz : zeroV P el = some z)
    (hx : Rel m x vx) (hk : Rel m k vk) (h0 : mgetV h q z ok x k = some v) : ∃ v', (Instr.lookup t vx vk ok).run P w = .ok v' w ∧ Rel m v v' := by
  obtain ⟨d, hd, hdd⟩ := ktOf_spec hq
  obtain ⟨vz, hzr, hzz⟩ := zeroV_sound (m := m) hz
  unfold mgetV at h0
  split at h0
  · rename_i l hl
    split at h0
    · rcases mentries_sound (P := P) hs hx hl with ⟨rfl, rfl⟩ | ⟨r, es, clk, rfl, hr, he⟩
      · simp only [mfind] at h0
        obtain rfl := Option.some.inj h0
        cases ok with
        | true => exact ⟨.tuple #[vz, .bool false], by simp [Instr.lookup, run_underlying hm, Result.andThen, run_checkKey hd hdd, Instr.findKey, run_underlying hd, Instr.findNow, hzr], rel_tup (.cons hzz (.cons (.bool _) .nil))⟩
        | false => exact ⟨vz, by simp [Instr.lookup, run_underlying hm, Result.andThen, run_checkKey hd hdd, Instr.findKey, run_underlying hd, Instr.findNow, hzr], hzz⟩
      · split at h0
        · rename_i i x' hf
          obtain rfl := Option.some.inj h0
          rcases mfind_sound hdd hk he hf with ⟨hn, _⟩ | ⟨j, x2, e, g0, g1, g2, g3, g4⟩
          · cases hn
          · obtain ⟨rfl, rfl⟩ := Prod.mk.inj (Option.some.inj g0)
            cases ok with
            | true => exact ⟨.tuple #[e.val, .bool true], by simp [Instr.lookup, run_underlying hm, Result.andThen, run_getObj_map hr, run_checkKey hd hdd, run_findKey hd g4], rel_tup (.cons g3 (.cons (.bool _) .nil))⟩
            | false => exact ⟨e.val, by simp [Instr.lookup, run_underlying hm, Result.andThen, run_getObj_map hr, run_checkKey hd hdd, run_findKey hd g4], g3⟩
        · rename_i hf
          obtain rfl := Option.some.inj h0
          rcases mfind_sound hdd hk he hf with ⟨_, g⟩ | ⟨j, x2, e, g0, _⟩
          · cases ok with
            | true => exact ⟨.tuple #[vz, .bool false], by simp [Instr.lookup, run_underlying hm, Result.andThen, run_getObj_map hr, run_checkKey hd hdd, run_findKey hd g, hzr], rel_tup (.cons hzz (.cons (.bool _) .nil))⟩
            | false => exact ⟨vz, by simp [Instr.lookup, run_underlying hm, Result.andThen, run_getObj_map hr, run_checkKey hd hdd, run_findKey hd g, hzr], hzz⟩
          · cases g0
        · cases h0
    · cases h0
  · cases h0

theorem sameBits_key {m : M} {q : KT} {a b : V} {va vb : Value} (ha : Rel m a va) (hb : Rel m b vb) (h : keyEq q a b = some true) (n : Nat) : Instr.sameBits n vb va = true := by
  unfold keyEq at h
  split at h
  · split at h
    · rename_i k a' k' b' hk
      have h1 := eq_of_beq (Option.some.inj h)
      have hk := eq_of_beq hk
      subst hk; subst h1
      cases ha; cases hb
      simp [Instr.sameBits]
    · cases h
  · have h1 := Option.some.inj h
    cases ha with
    | str s _ e =>
      cases hb with
      | str s' _ e' =>
        have h2 : (s' == s) = true := by rw [str_beq e' e]; rw [beq_iff_eq] at h1 ⊢; exact h1.symm
        simpa [Instr.sameBits] using h2
  · have h1 := eq_of_beq (Option.some.inj h)
    subst h1
    cases ha; cases hb
    simp [Instr.sameBits]
  · cases h

theorem msetV_sound {P : Program} {m : M} {B h h' w} (hs : Sim m B h w) {t kt el : TypeId} {q : KT} {a k x : V} {va vk vx : Value} (hm : P.underlying t = some (.map kt el)) (hq : ktOf P kt = some q)
    (ha : Rel m a va) (hk : Rel m k vk) (hx : Rel m x vx) (h0 : msetV h q a k x = some h') : ∃ w', (Instr.mapUpdate t va vk vx).run P w = .ok () w' ∧ Sim m B h' w' ∧ Grows B m m h h' w w' := by
  obtain ⟨d, hd, hdd⟩ := ktOf_spec hq
  unfold msetV at h0
  split at h0
  · rename_i b
    split at h0
    · rename_i l hl
      split at h0
      · split at h0
        · rename_i l' hl'
          obtain rfl := Option.some.inj h0
          cases ha with
          | map _ r e =>
            obtain ⟨_, l0, es, clk, g1, g2, g3⟩ := hs.maps b r e
            rw [hl] at g1
            obtain rfl := Option.some.inj g1
            unfold mputL at hl'
            split at hl'
            · rename_i i x0 hf
              obtain rfl := Option.some.inj hl'
              rcases mfind_sound hdd hk g3 hf with ⟨hn, _⟩ | ⟨j, x2, e2, q0, q1, ⟨a2, q2, q3, q4⟩, _, q5⟩
              · cases hn
              · obtain ⟨rfl, rfl⟩ := Prod.mk.inj (Option.some.inj q0)
                rw [Nat.zero_add] at q5 ⊢
                have hj : j < es.size := by
                  rcases Nat.lt_or_ge j es.toList.length with hl | hl
                  · simpa using hl
                  · rw [List.getElem?_eq_none hl] at q1; cases q1
                have hget : es[j]? = some e2 := by rw [← Array.getElem?_toList]; exact q1
                have hnew : EntL m (l.set j (k, x)) (es.modify j fun e => { e with key := vk, val := vx }).toList := by
                  have h1 := g3.set (e := { e2 with key := vk, val := vx }) hk hx j
                  have h2 : (es.modify j fun e => { e with key := vk, val := vx }).toList = es.toList.set j { e2 with key := vk, val := vx } := by
                    apply List.ext_getElem?
                    intro i
                    rw [Array.getElem?_toList, Array.getElem?_modify, List.getElem?_set]
                    by_cases hi : j = i
                    · subst hi
                      have h3 : es[j] = e2 := by rw [Array.getElem?_eq_getElem hj] at hget; exact Option.some.inj hget
                      simp [hj, h3]
                    · simp [hi]
                  rw [h2]; exact h1
                obtain ⟨s1, s2⟩ := hs.setMap (clk := clk) e g2 hnew
                refine ⟨_, ?_, s1, s2⟩
                have hk2 : ((es[j]?.map (·.key)).getD vk) = e2.key := by rw [hget]; rfl
                simp [Instr.mapUpdate, run_underlying hm, Result.andThen, run_getObj_map g2, run_checkKey hd hdd, run_findKey hd q5, hget, Instr.keyThatStays, sameBits_key hk q4 q3, run_setObj_map _ g2]
            · rename_i hf
              obtain rfl := Option.some.inj hl'
              rcases mfind_sound hdd hk g3 hf with ⟨_, g⟩ | ⟨j, x2, e, q0, _⟩
              · have hnew : EntL m (l ++ [(k, x)]) (es.push { key := vk, val := vx, born := clk }).toList := by
                  rw [Array.toList_push]; exact g3.snoc hk hx
                obtain ⟨s1, s2⟩ := hs.setMap (clk := clk + 1) e g2 hnew
                refine ⟨_, ?_, s1, s2⟩
                simp [Instr.mapUpdate, run_underlying hm, Result.andThen, run_getObj_map g2, run_checkKey hd hdd, run_findKey hd g, run_setObj_map _ g2]
              · cases q0
            · cases hl'
        · cases h0
      · cases h0
    · cases h0
  · cases h0

theorem mlen_sound {P : Program} {m : M} {B h w} (hs : Sim m B h w) {t kt el ty : TypeId} {x : V} {vx : Value} {l : List (V × V)} (hm : P.underlying t = some (.map kt el)) (hx : Rel m x vx) (h0 : mentries h x = some l) :
    ∃ v', (Builtin.len_ #[t] ty #[vx]).run P w = .ok v' w ∧ Rel m (.int .i64 l.length) v' := by
  rcases mentries_sound (P := P) hs hx h0 with ⟨rfl, rfl⟩ | ⟨r, es, clk, rfl, hr, he⟩
  · exact ⟨goInt 0, by simp [Builtin.len_, run_underlying hm], .int _ _⟩
  · refine ⟨goInt es.size, by simp [Builtin.len_, run_underlying hm, Result.andThen, run_getObj_map hr], ?_⟩
    rw [he.length, Array.length_toList]; exact .int _ _

end Go.AM
