/- Operations that make memory: new variables, aggregates, make, conversions to bytes, append, copy. -/
import Derived.Test.YtgfohimonbagmaaGreatDoorAMOps3
namespace Go.AM
open Go.RowKit (Below)

def RC.toL : RC → List V
  | .is k zs => zs.map (V.int k)
  | .cs xs => xs

theorem RC.size_toL (r : RC) : r.toL.length = r.size := by cases r <;> simp [RC.toL, RC.size]
theorem RC.get_toL (r : RC) (i : Nat) : r.get i = r.toL[i]? := by
  cases r with
  | is k zs =>
    simp only [RC.get, RC.toL, List.getElem?_map]
    by_cases h : i < zs.length
    · simp [h, List.getD]
    · simp [h]
  | cs xs => rfl

theorem RelL.len {m : M} {l : List V} {a : Array Value} (h : RelL m l a.toList) : l.length = a.size := by
  have := h.length; simpa using this

/-- A NEW BLOCK, its first cells known. -/
theorem Sim.newL {m B h w w'} (hs : Sim m B h w) (hsm : Same w w') (rc : RC) (cs : Array Value) (el : TypeId) (fz : Nat × Nat)
    (hw : w'.heap = w.heap.push (.cells cs el fz)) (hf : ∀ o, o < cs.size → ¬ (fz.1 ≤ o ∧ o < fz.2))
    (hr : RelL m rc.toL (cs.toList.take rc.size)) :
    Sim (m.at_ h.next ⟨w.heap.size, 0, cs.size, rc.size⟩) B (h.new rc) w' ∧ Grows B m (m.at_ h.next ⟨w.heap.size, 0, cs.size, rc.size⟩) h (h.new rc) w w' := by
  have hlen := hr.length
  rw [RC.size_toL, List.length_take] at hlen
  have hle : rc.size ≤ cs.size := by rw [Array.length_toList] at hlen; omega
  refine hs.new hsm rc cs el fz hw hf hle fun i x hx => ?_
  rw [RC.get_toL] at hx
  obtain ⟨hi, rfl⟩ := List.getElem?_eq_some_iff.1 hx
  have hi' : i < (cs.toList.take rc.size).length := by rw [← hr.length]; exact hi
  have := hr.get i hi hi'
  rw [List.length_take, Array.length_toList] at hi'
  refine ⟨cs[i]'(by omega), by simp, ?_⟩
  simpa using this

theorem rel_new (m : M) (h : H) (p : Pl) : (m.at_ h.next p).φ h.next = some p := by
  show (if h.next = h.next then some p else m.φ h.next) = some p
  rw [if_pos rfl]

/-- An operation that lays one new block: its row's cells, what it answers by the row's number. -/
def AllocRun (P : Program) (m : M) (rc : RC) (vf : Nat → V) (s : Sem Value) : Prop :=
  ∀ w : World, ∃ (cs : Array Value) (el : TypeId) (fz : Nat × Nat) (v' : Value) (w' : World), s.run P w = .ok v' w' ∧ Same w w' ∧ w'.heap = w.heap.push (.cells cs el fz) ∧
    (∀ q, q < cs.size → ¬ (fz.1 ≤ q ∧ q < fz.2)) ∧ RelL m rc.toL (cs.toList.take rc.size) ∧ ∀ (m' : M) (b : Nat), m'.φ b = some ⟨w.heap.size, 0, cs.size, rc.size⟩ → Rel m' (vf b) v'

theorem AllocRun.sound {P : Program} {m : M} {B h w} (hs : Sim m B h w) {rc : RC} {vf : Nat → V} {s : Sem Value} (ha : AllocRun P m rc vf s) :
    ∃ m' v' w', s.run P w = .ok v' w' ∧ Rel m' (vf h.next) v' ∧ Sim m' B (h.new rc) w' ∧ Grows B m m' h (h.new rc) w w' := by
  obtain ⟨cs, el, fz, v', w', h1, h2, h3, h4, h5, h6⟩ := ha w
  have := hs.newL h2 rc cs el fz h3 h4 h5
  exact ⟨_, v', w', h1, h6 _ _ (rel_new m h _), this.1, this.2⟩

theorem box_alloc {P : Program} {m : M} {el : TypeId} {x : V} {vx : Value} {l : List V} (hx : Rel m x vx) (hl : x.cells = some l) :
    AllocRun P m (.cs l) (fun b => .ptr b 0) (Instr.box el vx) := by
  intro w
  obtain ⟨h1, _⟩ := cells_rel hx hl
  have hlen := h1.length
  refine ⟨vx.cells, el, (0, 0), .pointer (some ⟨w.heap.size, 0, none⟩), w.alloc (.cells vx.cells el), ?_, ⟨rfl, rfl, rfl⟩, rfl, fun o _ => by simp, ?_, fun m' b hb => ?_⟩
  · simp [Instr.box, newVar, newRow, newObj, Sem.run]
  · rw [show RC.toL (.cs l) = l from rfl, show RC.size (.cs l) = l.length from rfl, hlen, List.take_length]; exact h1
  · exact .ptr b 0 _ hb

theorem zeroL_sound {P : Program} {m : M} {t : TypeId} {l : List V} (h : zeroL P t = some l) : ∃ j z, P.info? t = some j ∧ j.zero = some z ∧ RelL m l z.cells.toList ∧ l.length = j.size ∧ ∀ x ∈ l, x.isCell = true := by
  unfold zeroL at h
  split at h
  · rename_i j hj
    split at h
    · rename_i z ts hz hts
      split at h
      · rename_i l' hl'
        split at h
        · rename_i hsz
          obtain rfl := Option.some.inj h
          exact ⟨j, z, hj, hz, cVs_rel hl', by simpa using hsz, cVs_isCell hl'⟩
        · cases h
      · cases h
    · cases h
  · cases h

theorem run_zero {P : Program} {t : TypeId} {j : TypeInfo} {z : Value} (h : P.info? t = some j) (hz : j.zero = some z) (w : World) : (zeroValue t).run P w = .ok z w := by
  simp [zeroValue, run_info h, hz]

theorem alloc_alloc {P : Program} {m : M} {el : TypeId} {l : List V} (hl : zeroL P el = some l) :
    AllocRun P m (.cs l) (fun b => .ptr b 0) (Instr.alloc el true (.tuple #[])) := by
  intro w
  obtain ⟨j, z, hj, hz, hr, _, _⟩ := zeroL_sound (m := m) hl
  have hlen := hr.length
  refine ⟨z.cells, el, (0, 0), .pointer (some ⟨w.heap.size, 0, none⟩), w.alloc (.cells z.cells el), ?_, ⟨rfl, rfl, rfl⟩, rfl, fun o _ => by simp, ?_, fun m' b hb => ?_⟩
  · simp [Instr.alloc, run_zero hj hz, newVar, newRow, newObj, Sem.run]
  · rw [show RC.toL (.cs l) = l from rfl, show RC.size (.cs l) = l.length from rfl, hlen, List.take_length]; exact hr
  · exact .ptr b 0 _ hb

/-! Parts laid into zero cells. -/

theorem foldl_set (off : Nat) : ∀ (l : List Value) (k : Nat) (a : Array Value), off + k + l.length ≤ a.size →
    ((l.zipIdx k).foldl (fun cs (x : Value × Nat) => cs.setIfInBounds (off + x.2) x.1) a).toList = a.toList.take (off + k) ++ l ++ a.toList.drop (off + k + l.length)
  | [], k, a, _ => by simp
  | v :: l, k, a, h => by
    simp only [List.length_cons] at h
    simp only [List.zipIdx_cons, List.foldl_cons]
    rw [foldl_set off l (k + 1) _ (by simp; omega)]
    have hk : off + k < a.toList.length := by simp; omega
    have e : (a.setIfInBounds (off + k) v).toList = a.toList.take (off + k) ++ v :: a.toList.drop (off + k + 1) := by
      rw [Array.toList_setIfInBounds, List.set_eq_take_append_cons_drop, if_pos hk]
    rw [e]
    have hl1 : (a.toList.take (off + k)).length = off + k := by simp; omega
    rw [show off + (k + 1) = off + k + 1 by omega]
    have t1 : (a.toList.take (off + k) ++ v :: a.toList.drop (off + k + 1)).take (off + k + 1) = a.toList.take (off + k) ++ [v] := by
      rw [List.take_append, hl1, List.take_of_length_le (by rw [hl1]; omega), show off + k + 1 - (off + k) = 1 by omega]; simp
    have t2 : (a.toList.take (off + k) ++ v :: a.toList.drop (off + k + 1)).drop (off + k + 1 + l.length) = a.toList.drop (off + k + (l.length + 1)) := by
      rw [List.drop_append, hl1, List.drop_of_length_le (by rw [hl1]; omega), show off + k + 1 + l.length - (off + k) = l.length + 1 by omega]
      simp only [List.drop_succ_cons, List.nil_append, List.drop_drop]
      congr 1; omega
    rw [t1, t2]
    simp

theorem fill_sound {P : Program} {m : M} {e : Env} {ρ : Operand → Value} (hρ : ORel P m e ρ) {place : Nat → Option (Nat × TypeId × Nat)} {place' : Nat → Option (Nat × Nat)}
    (hp : ∀ i off t size, place i = some (off, t, size) → place' i = some (off, size)) :
    ∀ {parts : List (Nat × Operand)} {ps zs l} {a : Array Value}, cParts P place parts = some ps → fill e zs ps = some l → RelL m zs a.toList →
    ∃ b, Instr.fill place' a (parts.map fun x => (x.1, ρ x.2)) = some b ∧ RelL m l b.toList
  | [], ps, zs, l, a, hc, hf, hz => by
    simp [cParts] at hc; subst hc
    simp [fill] at hf; subst hf
    exact ⟨a, rfl, hz⟩
  | (i, x) :: r, ps, zs, l, a, hc, hf, hz => by
    simp only [cParts] at hc
    split at hc
    · rename_i off t size hpl
      split at hc
      · rename_i y hy
        split at hc
        · rename_i ps' hps'
          obtain rfl := Option.some.inj hc
          simp only [fill] at hf
          split at hf
          · rename_i cs hcs
            split at hf
            · rename_i hcond
              simp only [Bool.and_eq_true, beq_iff_eq, decide_eq_true_eq] at hcond
              obtain ⟨hr1, _⟩ := cells_rel (hρ x t y hy) hcs
              have hl1 := hr1.len
              have hl2 := hz.len
              obtain ⟨b, hb, hrb⟩ := fill_sound hρ hp (a := ((ρ x).cells.zipIdx.foldl (fun cs (c, j) => cs.setIfInBounds (off + j) c) a)) hps' hf (by
                have e1 : ((ρ x).cells.zipIdx.foldl (fun cs (c, j) => cs.setIfInBounds (off + j) c) a).toList = a.toList.take off ++ (ρ x).cells.toList ++ a.toList.drop (off + size) := by
                  have := foldl_set off (ρ x).cells.toList 0 a (by rw [Array.length_toList]; omega)
                  rw [Nat.add_zero, Array.length_toList] at this
                  rw [← hcond.1, hl1, ← this, ← Array.foldl_toList, Array.toList_zipIdx]
                rw [e1]
                exact ((hz.take off).append hr1).append (hz.drop _))
              refine ⟨b, ?_, hrb⟩
              simp only [List.map_cons, Instr.fill, hp i off t size hpl]
              rw [if_neg (by simp; omega)]
              exact hb
            · cases hf
          · cases hf
        · cases hc
      · cases hc
    · cases hc

theorem run_mapM {P : Program} {w : World} {α β : Type} (f : α → Sem β) (g : α → β) : ∀ (l : List α), (∀ x ∈ l, (f x).run P w = .ok (g x) w) → (l.mapM f).run P w = .ok (l.map g) w
  | [], _ => by simp
  | x :: l, h => by
    have h1 := h x (List.mem_cons_self ..)
    have h2 := run_mapM f g l fun y hy => h y (List.mem_cons_of_mem _ hy)
    simp [List.mapM_cons, h1, h2]

theorem build_sound {P : Program} {m : M} {w : World} {e : Env} {ρ : Operand → Value} (hρ : ORel P m e ρ) {t : TypeId} {parts : List (Nat × Operand)} {i : I} {h : H} {v : V} {h' : H}
    (hc : cBuild P t parts = some i) (hi : iop e h i = some (v, h')) : h' = h ∧ ∃ v', (Instr.build t (parts.map fun x => (x.1, ρ x.2)).toArray).run P w = .ok v' w ∧ Rel m v v' := by
  unfold cBuild at hc
  split at hc
  · rename_i zs hzs
    obtain ⟨j, z, hj, hz, hr, _, _⟩ := zeroL_sound (m := m) hzs
    split at hc
    · rename_i fs hfs
      split at hc
      · rename_i hall
        split at hc
        · rename_i ps hps
          obtain rfl := Option.some.inj hc
          simp only [iop] at hi
          split at hi
          · rename_i l hl
            obtain ⟨rfl, rfl⟩ : V.agg l = v ∧ h = h' := by simpa using hi
            refine ⟨rfl, ?_⟩
            have hm : (fs.mapM fun f => do pure (f.offset, ← sizeOf f.type) : Sem (Array (Nat × Nat))).run P w = .ok (fs.map fun f => (f.offset, P.cellsOf f.type)) w := by
              rw [Array.mapM_eq_mapM_toList]
              have := run_mapM (P := P) (w := w) (fun f : Field => (do pure (f.offset, ← sizeOf f.type) : Sem (Nat × Nat))) (fun f => (f.offset, P.cellsOf f.type)) fs.toList (fun f hf => by
                have hsome : (P.info? f.type).isSome = true := by
                  have := Array.all_eq_true_iff_forall_mem.1 hall f (by simpa using hf)
                  exact this
                obtain ⟨k, hk⟩ := Option.isSome_iff_exists.1 hsome
                simp [run_size hk, Program.cellsOf, hk])
              rw [show (List.toArray <$> fs.toList.mapM fun f => do pure (f.offset, ← sizeOf f.type) : Sem (Array (Nat × Nat))) = (do pure (List.toArray (← fs.toList.mapM fun f => do pure (f.offset, ← sizeOf f.type)))) from rfl]
              rw [Sem.run_bind, this]
              simp only [Result.andThen_ok, Sem.run_pure]
              congr 1
              apply Array.ext'
              simp
            obtain ⟨b, hb, hrb⟩ := fill_sound hρ (place' := fun i => (fs.map fun f => (f.offset, P.cellsOf f.type))[i]?) (fun i off t size hpl => by
              unfold fieldPlaceOf at hpl
              split at hpl
              · rename_i f hf
                split at hpl
                · rename_i k hk
                  simp only [Option.some.injEq, Prod.mk.injEq] at hpl
                  obtain ⟨rfl, rfl, rfl⟩ := hpl
                  simp [hf, Program.cellsOf, hk]
                · cases hpl
              · cases hpl) hps hl hr
            refine ⟨.agg b, ?_, rel_agg hrb⟩
            simp only [Instr.build, Sem.run_bind, run_zero hj hz, Result.andThen_ok, run_underlying hfs, hm, hb]
            simp
          · cases hi
        · cases hc
      · cases hc
    · rename_i n el hel
      split at hc
      · rename_i k hk
        split at hc
        · rename_i ps hps
          obtain rfl := Option.some.inj hc
          simp only [iop] at hi
          split at hi
          · rename_i l hl
            obtain ⟨rfl, rfl⟩ : V.agg l = v ∧ h = h' := by simpa using hi
            refine ⟨rfl, ?_⟩
            obtain ⟨b, hb, hrb⟩ := fill_sound hρ (place' := fun i => some (i * k.size, k.size)) (fun i off t size hpl => by
              simp only [Option.some.injEq, Prod.mk.injEq] at hpl
              obtain ⟨rfl, rfl, rfl⟩ := hpl
              rfl) hps hl hr
            refine ⟨.agg b, ?_, rel_agg hrb⟩
            simp only [Instr.build, Sem.run_bind, run_zero hj hz, Result.andThen_ok, run_underlying hel, run_size hk, hb]
            simp
          · cases hi
        · cases hc
      · cases hc
    · cases hc
  · cases hc

theorem mkRow_toL {int : Option IntKind} {l : List V} {rc : RC} (h : mkRow int l = some rc) : rc.toL = l := by
  unfold mkRow at h
  split at h
  · obtain rfl := Option.some.inj h; rfl
  · rename_i k
    split at h
    · rename_i zs hzs
      obtain rfl := Option.some.inj h
      have key : ∀ {l : List V} {zs : List Int}, mkRow.go k l = some zs → zs.map (V.int k) = l := by
        intro l
        induction l with
        | nil => intro zs h; simp [mkRow.go] at h; subst h; rfl
        | cons x r ih =>
          intro zs h
          cases x <;> simp only [mkRow.go] at h <;> try cases h
          split at h
          · rename_i hk
            split at h
            · rename_i l' hl'
              obtain rfl := Option.some.inj h
              simp only [beq_iff_eq] at hk
              subst hk
              simp [ih hl']
            · cases h
          · cases h
      exact key hzs
    · cases h

theorem replicate_flatten_get {α : Type} (z : List α) (hz : 0 < z.length) : ∀ (n j : Nat), j < n * z.length → (List.replicate n z).flatten[j]? = z[j % z.length]?
  | 0, j, h => by simp at h
  | n + 1, j, h => by
    rw [List.replicate_succ, List.flatten_cons]
    by_cases hj : j < z.length
    · rw [List.getElem?_append_left hj, Nat.mod_eq_of_lt hj]
    · rw [List.getElem?_append_right (by omega), replicate_flatten_get z hz n (j - z.length) (by rw [Nat.succ_mul] at h; omega)]
      rw [Nat.mod_eq_sub_mod (a := j) (by omega)]

theorem zeros_rel {m : M} {z : List V} {c : Array Value} (hr : RelL m z c.toList) (n : Nat) : RelL m (List.replicate n z).flatten ((Array.range (n * z.length)).map (c[· % c.size]!)).toList := by
  have hlen := hr.len
  by_cases hz : z.length = 0
  · have : z = [] := List.eq_nil_of_length_eq_zero hz
    subst this
    simp
    exact .nil
  · refine RelL.of_get _ _ (by simp) fun j h1 h2 => ?_
    have h1' : j < n * z.length := by simpa using h1
    have hm : j % z.length < z.length := Nat.mod_lt _ (by omega)
    have e := replicate_flatten_get z (by omega) n j h1'
    rw [List.getElem?_eq_getElem h1, List.getElem?_eq_getElem hm] at e
    rw [Option.some.inj e]
    have e2 : ((Array.range (n * z.length)).map (c[· % c.size]!)).toList[j] = c[j % c.size]'(by rw [← hlen]; exact hm) := by
      simp only [Array.toList_map, List.getElem_map, Array.toList_range, List.getElem_range]
      rw [getElem!_pos]
    rw [e2]
    have := hr.get (j % z.length) hm (by rw [← hr.length]; exact hm)
    simp only [Array.getElem_toList] at this
    simp only [hlen] at this ⊢
    exact this

/-- What an operation that lays one block does to the heap. -/
def Lays (e : Env) (i : I) (rc : RC) (vf : Nat → V) : Prop := ∀ h : H, iop e h i = some (vf h.next, h.new rc)

theorem buildSlice_alloc {P : Program} {m : M} {h : H} {e : Env} {ρ : Operand → Value} (hρ : ORel P m e ρ) {t : TypeId} {len : Nat} {parts : List (Nat × Operand)} {i : I} {v : V} {h' : H}
    (hc : cBuildSlice P t len parts = some i) (hi : iop e h i = some (v, h')) :
    ∃ rc vf, Lays e i rc vf ∧ AllocRun P m rc vf (Instr.buildSlice t len (parts.map fun x => (x.1, ρ x.2)).toArray) := by
  unfold cBuildSlice at hc
  split at hc
  · rename_i el hel
    split at hc
    · rename_i j z hj hz
      obtain ⟨j', zz, hj', hzz, hr, hsz, _⟩ := zeroL_sound (m := m) hz
      rw [hj] at hj'; obtain rfl := Option.some.inj hj'
      split at hc
      · rename_i hlim
        simp only [Bool.and_eq_true, decide_eq_true_eq] at hlim
        split at hc
        · rename_i ps hps
          obtain rfl := Option.some.inj hc
          simp only [iop] at hi
          split at hi
          · rename_i l hl
            split at hi
            · rename_i rc hrc
              refine ⟨rc, fun b => .sl b 0 j.size len (some len), fun h2 => by simp only [iop, hl, hrc], fun w => ?_⟩
              have htoL := mkRow_toL hrc
              have hzr := zeros_rel hr len
              obtain ⟨b, hb, hrb⟩ := fill_sound hρ (place' := fun i => some (i * j.size, j.size)) (fun i off t size hpl => by
                simp only [Option.some.injEq, Prod.mk.injEq] at hpl
                obtain ⟨rfl, rfl, rfl⟩ := hpl
                rfl) hps hl hzr
              have hrl := hrb.length
              have hlsz : l.length = len * j.size := by
                have : ∀ {zs ps l}, fill e zs ps = some l → l.length = zs.length := by
                  intro zs ps
                  induction ps generalizing zs with
                  | nil => intro l h; simp [fill] at h; rw [h]
                  | cons q ps ih =>
                    obtain ⟨o1, s1, x1⟩ := q
                    intro l h
                    simp only [fill] at h
                    split at h
                    · split at h
                      · rename_i hcond
                        simp only [Bool.and_eq_true, beq_iff_eq, decide_eq_true_eq] at hcond
                        rw [ih h]; simp; omega
                      · cases h
                    · cases h
                rw [this hl]; simp [hsz]
              have hbsz : b.size = len * j.size := by rw [← hrb.len, hlsz]
              refine ⟨b, el, (0, 0), .slice (some ⟨w.heap.size, 0, none⟩) len len, w.alloc (.cells b el), ?_, ⟨rfl, rfl, rfl⟩, rfl, fun o _ => by simp, ?_, fun m' q hq => ?_⟩
              · rw [hsz] at hb
                simp only [Instr.buildSlice, Sem.run_bind, run_underlying hel, Result.andThen_ok, run_size hj]
                rw [if_neg (by omega), if_neg (by omega)]
                simp only [Sem.run_bind, run_zero hj hzz, Sem.run_pure, Result.andThen_ok, hb]
                simp [newRow, newObj, Sem.run]
              · rw [htoL, ← RC.size_toL, htoL, hrl, List.take_length]; exact hrb
              · have := Rel.sl (m := m') q 0 j.size len (some len) _ len hq (Nat.le_refl _) (by simp [hbsz]) (fun c' e => by simpa using e) (fun e => by cases e)
                simpa using this
            · cases hi
          · cases hi
        · cases hc
      · split at hc
        · obtain rfl := Option.some.inj hc
          simp only [iop, fill] at hi
          split at hi
          · rename_i rc hrc
            refine ⟨rc, fun b => .sl b 0 j.size 0 (some 0), fun h2 => by simp only [iop, fill, hrc], fun w => ?_⟩
            have htoL := mkRow_toL hrc
            refine ⟨#[], el, (0, 0), .slice (some ⟨w.heap.size, 0, none⟩) 0 0, w.alloc (.cells #[] el), ?_, ⟨rfl, rfl, rfl⟩, rfl, fun o _ => by simp, ?_, fun m' q hq => ?_⟩
            · simp [Instr.buildSlice, Sem.run_bind, run_underlying hel, Result.andThen_ok, run_size hj, Instr.fill, newRow, newObj, Sem.run]; congr 2; apply Array.ext'; simp
            · rw [htoL]; simpa using RelL.nil
            · have := Rel.sl (m := m') q 0 j.size 0 (some 0) _ 0 hq (Nat.le_refl _) (by simp) (fun c' e => by simpa using e) (fun e => by cases e)
              simpa using this
          · cases hi
        · cases hc
    · cases hc
  · cases hc

end Go.AM
