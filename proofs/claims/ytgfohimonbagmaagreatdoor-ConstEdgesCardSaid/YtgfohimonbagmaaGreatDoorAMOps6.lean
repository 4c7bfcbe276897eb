/- Append. -/
import Derived.Test.YtgfohimonbagmaaGreatDoorAMOps5
namespace Go.AM
open Go.RowKit (Below)

theorem Sim.drew {m : M} {B h w} (hs : Sim m B h w) : Sim m B h w.drew := ⟨hs.bound, hs.dom, hs.own, hs.cells, hs.inj, hs.ghost, hs.maps, hs.minj⟩

theorem Sim.kill {m : M} {B h w b p} (hs : Sim m B h w) (hb : m.φ b = some p) : Sim m B (h.kill b) w ∧ Grows B m m h (h.kill b) w w := by
  have hlen : (h.kill b).rows.length = h.rows.length := by simp [H.kill]
  refine ⟨⟨hs.bound, fun b' p' e => by rw [hlen]; exact hs.dom b' p' e, hs.own, ?_, ?_, hs.ghost, hs.maps, hs.minj⟩, ⟨M.Le.refl m, Below.refl B w, ?_, by omega, fun _ e => .inl e⟩⟩
  · intro b' p' r' e hr
    rw [H.row_kill] at hr
    split at hr
    · cases hr
    · exact hs.cells b' p' r' e hr
  · intro b1 b2 p1 p2 e1 e2 r1 r2 hp
    rw [H.row_kill] at r1 r2
    split at r1
    · simp at r1
    · split at r2
      · simp at r2
      · exact hs.inj b1 b2 p1 p2 e1 e2 r1 r2 hp
  · intro b' hb' e
    refine ⟨e, ?_⟩
    have : b' ≠ b := fun hx => by rw [hx, hb] at e; cases e
    simp only [H.kill]; rw [List.getElem?_set_ne (fun x => this x.symm)]

/-- A row that goes on in the same block under a new number; the old one is gone. -/
theorem Sim.regrow {m : M} {B h w w' b p r} (hs : Sim m B h w) (hb : m.φ b = some p) (hr : h.row b = some r) (hsm : Same w w')
    (hsize : w'.heap.size = w.heap.size) (hother : ∀ k, k ≠ p.blk → w'.heap[k]? = w.heap[k]?)
    (cs cs' : Array Value) (el fz) (h0 : w.heap[p.blk]? = some (.cells cs el fz)) (h1 : w'.heap[p.blk]? = some (.cells cs' el fz)) (hcs : cs'.size = cs.size)
    (o : Nat) (rc : RC) (hlim : p.base + o + rc.size ≤ p.lim) (hc : ∀ i x, rc.get i = some x → ∃ v, cs'[p.base + o + i]? = some v ∧ Rel m x v) :
    Sim (m.at_ h.next ⟨p.blk, p.base + o, p.lim, rc.size⟩) B ((h.kill b).new rc) w' ∧ Grows B m (m.at_ h.next ⟨p.blk, p.base + o, p.lim, rc.size⟩) h ((h.kill b).new rc) w w' := by
  have hle := M.at_le (p := ⟨p.blk, p.base + o, p.lim, rc.size⟩) hs.fresh
  have hnext : (h.kill b).next = h.next := by simp [H.next, H.kill]
  have hlen : ((h.kill b).new rc).rows.length = h.rows.length + 1 := by simp [H.new, H.kill]
  have hrow : ∀ b', ((h.kill b).new rc).row b' = if b' = h.next then some ⟨rc, (h.kill b).clk, false⟩ else if b' = b then none else h.row b' := by
    intro b'; rw [H.row_new, hnext, H.row_kill]
  have key : ∀ b' p', (m.at_ h.next ⟨p.blk, p.base + o, p.lim, rc.size⟩).φ b' = some p' → (b' = h.next ∧ p' = ⟨p.blk, p.base + o, p.lim, rc.size⟩) ∨ (b' ≠ h.next ∧ m.φ b' = some p') := by
    intro b' p' e
    have e' : (if b' = h.next then some (⟨p.blk, p.base + o, p.lim, rc.size⟩ : Pl) else m.φ b') = some p' := e
    split at e'
    · rename_i hb; exact .inl ⟨hb, (Option.some.inj e').symm⟩
    · rename_i hb; exact .inr ⟨hb, e'⟩
  obtain ⟨hB, hG, cs0, el0, fz0, hk0, hsz0, hf0⟩ := hs.own b p hb
  rw [h0] at hk0
  obtain ⟨rfl, rfl, rfl⟩ : cs = cs0 ∧ el = el0 ∧ fz = fz0 := by simpa using hk0
  have hfz' : ∀ o, o < p.lim → w'.frozen? ⟨p.blk, o, none⟩ = false := fun o ho => by
    have := hf0 o ho
    obtain ⟨lo, hi⟩ := fz
    rw [frozen_cells h0] at this
    rw [frozen_cells h1]; exact this
  refine ⟨⟨by have := hs.bound; omega, ?_, ?_, ?_, ?_, ?_, hs.keepMaps hle rfl rfl (fun r es clk e => by rw [hother r (fun hx => by rw [hx, h0] at e; cases e)]; exact e), hs.keepInj rfl⟩, ⟨hle, below_of hsm.os hsm.tape hsm.output (by omega) (fun k hk => hother k (by omega)), ?_, by omega, fun k hk => .inl hk⟩⟩
  · intro b' p' e
    rw [hlen]
    rcases key b' p' e with ⟨rfl, _⟩ | ⟨_, e⟩
    · exact Nat.lt_succ_self _
    · have := hs.dom b' p' e; omega
  · intro b' p' e
    rcases key b' p' e with ⟨rfl, rfl⟩ | ⟨_, e⟩
    · exact ⟨hB, hG, cs', el, fz, h1, by rw [hcs]; exact hsz0, hfz'⟩
    · obtain ⟨a1, a2, cs2, el2, fz2, a3, a4, a5⟩ := hs.own b' p' e
      by_cases hk : p'.blk = p.blk
      · rw [hk] at a3 a5 ⊢
        rw [h0] at a3
        obtain ⟨rfl, rfl, rfl⟩ : cs = cs2 ∧ el = el2 ∧ fz = fz2 := by simpa using a3
        exact ⟨hB, hG, cs', el, fz, h1, by rw [hcs]; exact a4, fun q hq => hfz' q (by rw [← hsz0, a4]; exact hq)⟩
      · exact ⟨a1, a2, cs2, el2, fz2, by rw [hother _ hk]; exact a3, a4, fun q hq => by rw [← a5 q hq]; exact World.frozen?_of_block (w := w) (hother _ hk)⟩
  · intro b' p' r' e hr'
    rw [hrow] at hr'
    rcases key b' p' e with ⟨rfl, rfl⟩ | ⟨hn, e⟩
    · rw [if_pos rfl] at hr'
      obtain rfl := (Option.some.inj hr').symm
      refine ⟨rfl, hlim, fun i x hx => ?_⟩
      obtain ⟨v, hv, hrel⟩ := hc i x hx
      exact ⟨v, by rw [cell_cells h1]; exact hv, hrel.mono hle⟩
    · rw [if_neg hn] at hr'
      by_cases hbb : b' = b
      · rw [if_pos hbb] at hr'; cases hr'
      · rw [if_neg hbb] at hr'
        have hk : p'.blk ≠ p.blk := fun hk => hbb (hs.inj b' b p' p e hb (by rw [hr']; rfl) (by rw [hr]; rfl) hk)
        obtain ⟨a0, a1, a2⟩ := hs.cells b' p' r' e hr'
        exact ⟨a0, a1, fun i x hx => by
          obtain ⟨v, hv, hrel⟩ := a2 i x hx
          exact ⟨v, (World.cell?_of_block (w := w) (hother _ hk)).trans hv, hrel.mono hle⟩⟩
  · intro b1 b2 p1 p2 e1 e2 r1 r2 hp
    rw [hrow] at r1 r2
    have other : ∀ b1 p1, b1 ≠ h.next → m.φ b1 = some p1 → (if b1 = b then none else h.row b1).isSome → p1.blk = p.blk → False := by
      intro b1 p1 _ e hr1 hp
      by_cases hbb : b1 = b
      · rw [if_pos hbb] at hr1; simp at hr1
      · rw [if_neg hbb] at hr1
        exact hbb (hs.inj b1 b p1 p e hb hr1 (by rw [hr]; rfl) hp)
    rcases key b1 p1 e1 with ⟨rfl, rfl⟩ | ⟨n1, e1⟩
    · rcases key b2 p2 e2 with ⟨rfl, _⟩ | ⟨n2, e2⟩
      · rfl
      · rw [if_neg n2] at r2
        exact (other b2 p2 n2 e2 r2 hp.symm).elim
    · rcases key b2 p2 e2 with ⟨rfl, rfl⟩ | ⟨n2, e2⟩
      · rw [if_neg n1] at r1
        exact (other b1 p1 n1 e1 r1 hp).elim
      · rw [if_neg n1] at r1; rw [if_neg n2] at r2
        split at r1
        · simp at r1
        · split at r2
          · simp at r2
          · exact hs.inj b1 b2 p1 p2 e1 e2 r1 r2 hp
  · intro k cs2 e
    obtain ⟨el2, fz2, e2⟩ := hs.ghost k cs2 e
    have hk : k ≠ p.blk := fun hk => by
      have : m.G k = some cs2 := e
      rw [hk, hG] at this; cases this
    exact ⟨el2, fz2, by rw [hother _ hk]; exact e2⟩
  · intro b' hb' e
    refine ⟨?_, ?_⟩
    · show (if b' = h.next then some (⟨p.blk, p.base + o, p.lim, rc.size⟩ : Pl) else m.φ b') = none
      rw [if_neg (by simp [H.next]; omega)]; exact e
    · have : b' ≠ b := fun hx => by rw [hx, hb] at e; cases e
      simp only [H.new, H.kill]
      rw [List.getElem?_append_left (by simp; exact hb'), List.getElem?_set_ne (fun x => this x.symm)]

/-! The model's append. -/

theorem growBy_le (n : Nat) : ∀ (r c : Nat), Builtin.growBy n r c ≤ Nat.max c (n + (n + 768) / 4)
  | 0, c => by simp only [Builtin.growBy]; exact Nat.le_max_left ..
  | r + 1, c => by
    simp only [Builtin.growBy]
    split
    · exact Nat.le_max_left ..
    · have := growBy_le n r (c + (c + 768) / 4)
      have h1 : c + (c + 768) / 4 ≤ n + (n + 768) / 4 := by omega
      have h2 : Nat.max (c + (c + 768) / 4) (n + (n + 768) / 4) = n + (n + 768) / 4 := Nat.max_eq_right h1
      rw [h2] at this
      exact Nat.le_trans this (Nat.le_max_right ..)

theorem nextslicecap_le {n c : Nat} (h : c < n) : Builtin.nextslicecap n c ≤ 2 * n + 768 := by
  unfold Builtin.nextslicecap
  split
  · omega
  · split
    · omega
    · have := growBy_le n 4 c
      have h2 : Nat.max c (n + (n + 768) / 4) ≤ 2 * n + 768 := Nat.max_le.2 ⟨by omega, by omega⟩
      omega

/-- What an appended operand's type may be. -/
def AppT (P : Program) (u : TypeId) : Prop := (∃ e, P.underlying u = some (.slice e)) ∨ P.underlying u = some .string

theorem append_place_run {P : Program} {w w' : World} {t u ty el : TypeId} {j : TypeInfo} {vy : Value} {a : Addr} {l c n : Nat} {new : Array Value}
    (ht : P.underlying t = some (.slice el)) (hu : AppT P u) (hj : P.info? el = some j)
    (hlen : (Builtin.lenOf vy).run P w = .ok n w) (hle : l + n ≤ c) (hnew : (Builtin.firstCells j.size n vy).run P w = .ok new w)
    (hst : (storeCells (a.add (l * j.size)) new.toList).run P w = .ok () w') :
    (Builtin.append_ #[t, u] ty #[.slice (some a) l c, vy]).run P w = .ok (.slice (some a) (l + n) c) w' := by
  rcases hu with ⟨e, hu⟩ | hu <;>
    simp [Builtin.append_, run_underlying ht, run_underlying hu, run_size hj, hlen, hle, hnew, hst]

theorem append_none_run {P : Program} {w : World} {t u ty el : TypeId} {j : TypeInfo} {vy : Value} {new : Array Value}
    (ht : P.underlying t = some (.slice el)) (hu : AppT P u) (hj : P.info? el = some j)
    (hlen : (Builtin.lenOf vy).run P w = .ok 0 w) (hnew : (Builtin.firstCells j.size 0 vy).run P w = .ok new w) :
    (Builtin.append_ #[t, u] ty #[.slice none 0 0, vy]).run P w = .ok (.slice none 0 0) w := by
  rcases hu with ⟨e, hu⟩ | hu <;>
    simp [Builtin.append_, run_underlying ht, run_underlying hu, run_size hj, hlen, hnew]

theorem append_grow_run {P : Program} {w : World} {t u ty el : TypeId} {j : TypeInfo} {z vy : Value} {a : Option Addr} {l c n : Nat} {old new : Array Value}
    (ht : P.underlying t = some (.slice el)) (hu : AppT P u) (hj : P.info? el = some j) (hz : j.zero = some z)
    (hlen : (Builtin.lenOf vy).run P w = .ok n w) (hlt : c < l + n) (hfit : fits (l + n) j.bytes = true)
    (hold : (Builtin.firstCells j.size l (.slice a l c)).run P w.drew = .ok old w.drew) (hnew : (Builtin.firstCells j.size n vy).run P w.drew = .ok new w.drew) :
    ∃ cap, l + n ≤ cap ∧ (Builtin.append_ #[t, u] ty #[.slice a l c, vy]).run P w =
      .ok (.slice (some ⟨w.heap.size, 0, none⟩) (l + n) cap) (w.drew.alloc (.cells (old ++ new ++ Builtin.zeroCells z.cells (cap - (l + n))) el)) := by
  simp only [fits, Bool.and_eq_true, decide_eq_true_eq] at hfit
  obtain ⟨f1, f2⟩ := hfit
  have hn := nextslicecap_le hlt
  have hb : Builtin.nextslicecap (l + n) c * j.bytes ≤ 140737488355328 := Nat.le_trans (Nat.mul_le_mul_right _ hn) f1
  refine ⟨(Question.appendCap (l + n) c el).cut (w.tape w.drawn (.appendCap (l + n) c el)), by simp [Question.cut], ?_⟩
  generalize hcap : (Question.appendCap (l + n) c el).cut (w.tape w.drawn (.appendCap (l + n) c el)) = cap
  have hch : (choose (.appendCap (l + n) c el)).run P w = .ok cap w.drew := by
    rw [run_choose_drew]; simp [Question.forced, hcap]
  have h1 : ¬ (l + n ≤ c) := by omega
  have h2 : ¬ ((9223372036854775807 : Int) < (l : Int) + (n : Int)) := by omega
  have h3 : ¬ (281474976710656 < Builtin.nextslicecap (l + n) c * j.bytes) := by omega
  have hrow : ∀ cs : Array Value, (newRow el cs).run P w.drew = .ok ⟨w.heap.size, 0, none⟩ (w.drew.alloc (.cells cs el)) := fun cs => by
    simp [newRow, newObj, Sem.run]
    rfl
  rcases hu with ⟨e, hu⟩ | hu <;>
    simp [Builtin.append_, run_underlying ht, run_underlying hu, run_size hj, hlen, h1, h2, h3, run_info hj, hch, hold, hnew, run_zero hj hz, hrow, -run_choose_drew, -run_choose]

theorem firstCells_drew {P : Program} {m : M} {B h w} (hs : Sim m B h w) {sz : Nat} {x : V} {vx : Value} {rc : RC} {n k : Nat} (hx : Rel m x vx) (he : elems h sz x = some rc) (hn : lenV x = some n) (hk : k ≤ n) (hsz : rc.size = n * sz) :
    ∃ arr : Array Value, (Builtin.firstCells sz k vx).run P w.drew = .ok arr w.drew ∧ RelL m (rc.toL.take (k * sz)) arr.toList := elems_sound hs.drew hx he hn hk hsz

theorem RC.app_toL {r s q : RC} (h : r.app s = some q) : q.toL = r.toL ++ s.toL := by
  unfold RC.app at h
  split at h
  · split at h
    · rename_i hk
      simp only [beq_iff_eq] at hk
      subst hk
      obtain rfl := Option.some.inj h
      simp [RC.toL]
    · cases h
  · obtain rfl := Option.some.inj h; rfl
  · cases h

/-- The growth, into a new block. -/
theorem grow_sound {P : Program} {m : M} {B h w} (hs : Sim m B h w) {t u ty el : TypeId} {j : TypeInfo} {z vy : Value} {zl : List V} {a : Option Addr} {l c n : Nat} {old new : Array Value} {rc : RC}
    (ht : P.underlying t = some (.slice el)) (hu : AppT P u) (hj : P.info? el = some j) (hz : j.zero = some z) (hzl : RelL m zl z.cells.toList) (hzs : zl.length = j.size)
    (hlen : (Builtin.lenOf vy).run P w = .ok n w) (hlt : c < l + n) (hfit : fits (l + n) j.bytes = true)
    (hold : (Builtin.firstCells j.size l (.slice a l c)).run P w.drew = .ok old w.drew) (hnew : (Builtin.firstCells j.size n vy).run P w.drew = .ok new w.drew)
    (hrc : RelL m rc.toL (old ++ new).toList) (hsize : rc.size = (l + n) * j.size) :
    ∃ m' v' w', (Builtin.append_ #[t, u] ty #[.slice a l c, vy]).run P w = .ok v' w' ∧ Rel m' (.sl h.next 0 j.size (l + n) none) v' ∧ Sim m' B (h.new rc) w' ∧ Grows B m m' h (h.new rc) w w' := by
  obtain ⟨cap, hcap, hrun⟩ := append_grow_run (ty := ty) ht hu hj hz hlen hlt hfit hold hnew
  have hzsz : z.cells.size = j.size := by rw [← hzs, hzl.len]
  have hon : (old ++ new).size = (l + n) * j.size := by rw [← hrc.len, RC.size_toL, hsize]
  have hcs : (old ++ new ++ Builtin.zeroCells z.cells (cap - (l + n))).size = cap * j.size := by
    rw [Array.size_append, hon]
    simp only [Builtin.zeroCells, Array.size_map, Array.size_range, hzsz]
    rw [← Nat.add_mul]; congr 1; omega
  have hsim := hs.newL (w' := w.drew.alloc (.cells (old ++ new ++ Builtin.zeroCells z.cells (cap - (l + n))) el)) ⟨rfl, rfl, rfl⟩ rc _ el (0, 0) rfl (fun o _ => by simp) (by
    rw [Array.toList_append, List.take_append_of_le_length (by rw [← hrc.length, RC.size_toL]; exact Nat.le_refl _), List.take_of_length_le (by rw [← hrc.length, RC.size_toL]; exact Nat.le_refl _)]
    exact hrc)
  refine ⟨_, _, _, hrun, ?_, hsim.1, hsim.2⟩
  have := Rel.sl (m := m.at_ h.next ⟨w.heap.size, 0, (old ++ new ++ Builtin.zeroCells z.cells (cap - (l + n))).size, rc.size⟩) h.next 0 j.size (l + n) none _ cap (rel_new m h _) hcap (by simp only [Nat.zero_add, hcs]; exact Nat.le_refl _) (fun c' e => by cases e) (fun _ => by
    simp only [hsize, Nat.zero_add]; exact Nat.mul_le_mul_right _ hcap)
  simpa using this

theorem isNil_true {m : M} {x : V} {vx : Value} (hx : Rel m x vx) (h : x.isNil = some true) : vx = .slice none 0 0 := by
  cases hx <;> simp [V.isNil] at h <;> rfl

theorem capOf_sound {m : M} {x : V} {vx : Value} {c : Nat} (hx : Rel m x vx) (h : x.capOf = some c) : ∃ a l, vx = .slice a l c := by
  cases hx with
  | intsn k cap hcap => simp only [V.capOf] at h; rw [← hcap c h]; exact ⟨_, _, rfl⟩
  | intse k cap a c' hcap => simp only [V.capOf] at h; rw [← hcap c h]; exact ⟨_, _, rfl⟩
  | lste sz cap a c' hcap => simp only [V.capOf] at h; rw [← hcap c h]; exact ⟨_, _, rfl⟩
  | ints k zs cap B off cs c' hG hc hl hcap => simp only [V.capOf] at h; rw [← hcap c h]; exact ⟨_, _, rfl⟩
  | lstn sz cap hcap => simp only [V.capOf] at h; rw [← hcap c h]; exact ⟨_, _, rfl⟩
  | lst sz n xs cap B off cs c' ws hG hn hc hr hl hcap => simp only [V.capOf] at h; rw [← hcap c h]; exact ⟨_, _, rfl⟩
  | _ => simp [V.capOf] at h

theorem appRow_sound {P : Program} {m : M} {B h h' w} (hs : Sim m B h w) {t u ty el : TypeId} {j : TypeInfo} {y v : V} {vx vy : Value} {b o len n : Nat} {cap : Option Nat} {xs ys : RC}
    (ht : P.underlying t = some (.slice el)) (hu : AppT P u) (hj : P.info? el = some j) (hzero : (zeroL P el).isSome = true) (hpos : j.size ≠ 0)
    (hx : Rel m (.sl b o j.size len cap) vx) (hy : Rel m y vy) (hxs : elems h j.size (.sl b o j.size len cap) = some xs) (hys : elems h j.size y = some ys) (hn : lenV y = some n) (hsize : ys.size = n * j.size)
    (h0 : appRow h j.size j.bytes b o len cap xs ys n = some (v, h')) :
    ∃ m' v' w', (Builtin.append_ #[t, u] ty #[vx, vy]).run P w = .ok v' w' ∧ Rel m' v v' ∧ Sim m' B h' w' ∧ Grows B m m' h h' w w' := by
  obtain ⟨zl, hzl⟩ := Option.isSome_iff_exists.1 hzero
  obtain ⟨j', z, hj', hz, hzr, hzs, _⟩ := zeroL_sound (m := m) hzl
  rw [hj] at hj'; obtain rfl := Option.some.inj hj'
  have hlen := lenOf_sound (P := P) (w := w) hy hn
  have hx0 := hx
  cases hx with
  | sl _ _ _ _ _ p c hb hl hc hcap hrow =>
  unfold appRow at h0
  split at h0
  · rename_i q hq
    obtain ⟨hrsz, hlim, hcells⟩ := hs.cells b p q hb hq
    split at h0
    · -- in place
      rename_i hcond
      simp only [Bool.and_eq_true, decide_eq_true_eq] at hcond
      obtain ⟨hfit, hcapok⟩ := hcond
      split at h0
      · rename_i rc hrc
        obtain ⟨rfl, rfl⟩ : V.sl b o j.size (len + n) cap = v ∧ h.put b rc = h' := by simpa using h0
        have hle : len + n ≤ c := by
          cases cap with
          | some c' => have := hcap c' rfl; simp [capFits] at hcapok; omega
          | none =>
            have := hrow rfl
            have h1 : (len + n) * j.size ≤ c * j.size := by omega
            exact Nat.le_of_mul_le_mul_right h1 (by omega)
        obtain ⟨arr, harr, hrel⟩ := elems_sound (P := P) hs hy hys hn (Nat.le_refl n) hsize
        rw [List.take_of_length_le (by rw [RC.size_toL, hsize]; exact Nat.le_refl _)] at hrel
        obtain ⟨s1, s2, s3, s4⟩ := RC.over_spec hrc
        obtain ⟨w', hrun, hsim⟩ := hs.writes (P := P) hb hq (i := o + len * j.size) s1 (fun _ => by rw [RC.size_toL]; exact s2) s4 s3 hrel
        refine ⟨m, _, w', append_place_run (ty := ty) ht hu hj hlen hle harr (by rw [Addr.add_lit, Nat.add_assoc]; exact hrun), ?_, hsim⟩
        refine .sl b o j.size (len + n) cap p c hb hle hc hcap hrow
      · cases h0
    · split at h0
      · rename_i hnot hcond
        simp only [Bool.and_eq_true, decide_eq_true_eq] at hcond
        obtain ⟨hfits, hxsz⟩ := hcond
        split at h0
        · rename_i rc hrc
          split at h0
          · rename_i hok
            have htoL := RC.app_toL hrc
            have hrcs : rc.size = (len + n) * j.size := by
              rw [← RC.size_toL, htoL, List.length_append, RC.size_toL, RC.size_toL, hxsz, hsize, Nat.add_mul]
            obtain ⟨old, hold, holdr⟩ := firstCells_drew (P := P) hs hx0 hxs (by simp [lenV] : lenV (.sl b o j.size len cap) = some len) (Nat.le_refl len) hxsz
            obtain ⟨new, hnew, hnewr⟩ := firstCells_drew (P := P) hs hy hys hn (Nat.le_refl n) hsize
            rw [List.take_of_length_le (by rw [RC.size_toL, hxsz]; exact Nat.le_refl _)] at holdr
            rw [List.take_of_length_le (by rw [RC.size_toL, hsize]; exact Nat.le_refl _)] at hnewr
            have hrel : RelL m rc.toL (old ++ new).toList := by rw [htoL, Array.toList_append]; exact holdr.append hnewr
            split at h0
            · -- a known capacity that is too small
              rename_i c'
              split at h0
              · rename_i hlt
                obtain ⟨rfl, rfl⟩ : V.sl h.next 0 j.size (len + n) none = v ∧ h.new rc = h' := by simpa using h0
                have := hcap c' rfl
                exact grow_sound (ty := ty) hs ht hu hj hz hzr hzs hlen (by simp at hlt; omega) hfits hold hnew hrel hrcs
              · cases h0
            · split at h0
              · rename_i hend
                obtain ⟨rfl, rfl⟩ : V.sl h.next 0 j.size (len + n) none = v ∧ (h.kill b).new rc = h' := by simpa using h0
                have hend' : o + len * j.size = q.c.size := by simpa using hend
                by_cases hlt : c < len + n
                · obtain ⟨k1, k2⟩ := hs.kill hb
                  have hnext : (h.kill b).next = h.next := by simp [H.next, H.kill]
                  obtain ⟨m', v', w', r1, r2, r3, r4⟩ := grow_sound (ty := ty) k1 ht hu hj hz hzr hzs hlen hlt hfits hold hnew hrel hrcs
                  rw [hnext] at r2
                  exact ⟨m', v', w', r1, r2, r3, k2.trans r4⟩
                · have hle : len + n ≤ c := by omega
                  obtain ⟨hB, hG, cs, e2, fz, hk0, hsz0, hf0⟩ := hs.own b p hb
                  obtain ⟨arr, harr, harrr⟩ := elems_sound (P := P) hs hy hys hn (Nat.le_refl n) hsize
                  rw [List.take_of_length_le (by rw [RC.size_toL, hsize]; exact Nat.le_refl _)] at harrr
                  have harrs : arr.toList.length = n * j.size := by rw [← harrr.length, RC.size_toL, hsize]
                  have hmul : (len + n) * j.size ≤ c * j.size := Nat.mul_le_mul_right _ hle
                  have hmul2 : (len + n) * j.size = len * j.size + n * j.size := Nat.add_mul ..
                  have hycell : ∀ x ∈ ys.toL, x.isCell = true := by
                    intro x hx
                    have hx' : x ∈ rc.toL := by rw [htoL]; exact List.mem_append_right _ hx
                    cases rc with
                    | is k zs => simp [RC.toL] at hx'; obtain ⟨q, _, rfl⟩ := hx'; rfl
                    | cs l => exact List.all_eq_true.1 hok x hx'
                  obtain ⟨w', cs', hrun, hsm, hs1, hoth, hk', hcs', hg⟩ := run_stores P p.blk (p.base + o + len * j.size) e2 fz arr.toList 0 cs w hk0 (fun i h1 h2 => hf0 _ (by omega)) (by omega) (fun v hv => by
                    obtain ⟨i, hi, e⟩ := List.getElem_of_mem hv
                    have := harrr.get i (by rw [harrr.length]; exact hi) hi
                    rw [e] at this
                    exact isCell_shape this (hycell _ (List.getElem_mem _)))
                  obtain ⟨g1, g2⟩ := hs.regrow hb hq hsm hs1 hoth cs cs' e2 fz hk0 hk' hcs' o rc (by omega) (fun i x hx => by
                    rw [RC.get_toL, htoL] at hx
                    rw [hg]
                    by_cases hi : i < xs.toL.length
                    · rw [List.getElem?_append_left hi] at hx
                      rw [RC.size_toL, hxsz] at hi
                      rw [if_neg (by omega)]
                      -- the old row
                      have hxq : q.c.get (o + i) = some x := by
                        rw [RC.get_toL]
                        have hpart : xs.toL = (q.c.toL.drop o).take (len * j.size) := by
                          simp only [elems, beq_self_eq_true, if_true, hq] at hxs
                          split at hxs
                          · rename_i k' zs hzq
                            split at hxs
                            · obtain rfl := Option.some.inj hxs; rw [hzq]; simp [RC.toL, List.map_drop, List.map_take]
                            · cases hxs
                          · rename_i l' hzq
                            split at hxs
                            · obtain rfl := Option.some.inj hxs; rw [hzq]; simp [RC.toL]
                            · cases hxs
                        rw [hpart, List.getElem?_take_of_lt hi, List.getElem?_drop] at hx
                        exact hx
                      obtain ⟨v, hv, hr⟩ := hcells (o + i) x hxq
                      refine ⟨v, ?_, hr⟩
                      rw [← cell_cells hk0 (o := p.base + o + i), Nat.add_assoc]; exact hv
                    · rw [List.getElem?_append_right (by omega)] at hx
                      rw [RC.size_toL, hxsz] at hi hx
                      obtain ⟨hi2, e⟩ := List.getElem?_eq_some_iff.1 hx
                      have hi3 : i - len * j.size < arr.toList.length := by rw [← harrr.length]; exact hi2
                      rw [if_pos (by omega), show p.base + o + i - (p.base + o + len * j.size + 0) = i - len * j.size by omega, List.getElem?_eq_getElem hi3]
                      exact ⟨_, rfl, by rw [← e]; exact harrr.get _ hi2 hi3⟩)
                  refine ⟨_, _, w', append_place_run (ty := ty) ht hu hj hlen hle harr (by rw [Addr.add_lit]; exact hrun), ?_, g1, g2⟩
                  exact .sl h.next 0 j.size (len + n) none ⟨p.blk, p.base + o, p.lim, rc.size⟩ c (rel_new m h _) hle (by simpa using hc) (fun c' e => by cases e) (fun _ => by simp only [hrcs, Nat.zero_add]; exact hmul)
              · cases h0
          · cases h0
        · cases h0
      · cases h0
  · cases h0

/-- APPEND. -/
theorem appendV_sound {P : Program} {m : M} {B h h' w} (hs : Sim m B h w) {t u ty el : TypeId} {j : TypeInfo} {x y v : V} {vx vy : Value}
    (ht : P.underlying t = some (.slice el)) (hu : AppT P u) (hj : P.info? el = some j) (hzero : (zeroL P el).isSome = true) (hpos : j.size ≠ 0)
    (hx : Rel m x vx) (hy : Rel m y vy) (h0 : appendV h j.size j.bytes x y = some (v, h')) :
    ∃ m' v' w', (Builtin.append_ #[t, u] ty #[vx, vy]).run P w = .ok v' w' ∧ Rel m' v v' ∧ Sim m' B h' w' ∧ Grows B m m' h h' w w' := by
  obtain ⟨zl, hzl⟩ := Option.isSome_iff_exists.1 hzero
  obtain ⟨j', z, hj', hz, hzr, hzs, _⟩ := zeroL_sound (m := m) hzl
  rw [hj] at hj'; obtain rfl := Option.some.inj hj'
  unfold appendV at h0
  split at h0
  · rename_i ys n xs len hys hn hxs hlenx
    have hlen := lenOf_sound (P := P) (w := w) hy hn
    split at h0
    · rename_i hsize
      have hsize' : ys.size = n * j.size := by simpa using hsize
      split at h0
      · rename_i b o sz' len' cap
        split at h0
        · rename_i hsz
          simp only [beq_iff_eq] at hsz
          subst hsz
          simp only [lenV, Option.some.injEq] at hlenx
          subst hlenx
          exact appRow_sound hs ht hu hj hzero hpos hx hy hxs hys hn hsize' h0
        · cases h0
      · split at h0
        · rename_i hnil
          obtain rfl := isNil_true hx hnil
          split at h0
          · rename_i hn0
            simp only [beq_iff_eq] at hn0
            subst hn0
            obtain ⟨rfl, rfl⟩ : x = v ∧ h = h' := by simpa using h0
            obtain ⟨arr, harr, _⟩ := elems_sound (P := P) hs hy hys hn (Nat.le_refl 0) hsize'
            exact ⟨m, _, w, append_none_run (ty := ty) ht hu hj hlen harr, hx, hs, Grows.refl ..⟩
          · rename_i hn0
            split at h0
            · rename_i hcond
              simp only [Bool.and_eq_true] at hcond
              obtain ⟨hfits, hok⟩ := hcond
              obtain ⟨rfl, rfl⟩ : V.sl h.next 0 j.size n none = v ∧ h.new ys = h' := by simpa using h0
              obtain ⟨new, hnew, hnewr⟩ := firstCells_drew (P := P) hs hy hys hn (Nat.le_refl n) hsize'
              rw [List.take_of_length_le (by rw [RC.size_toL, hsize']; exact Nat.le_refl _)] at hnewr
              have hn1 : n ≠ 0 := by simpa using hn0
              have := grow_sound (ty := ty) (a := none) (l := 0) (c := 0) (old := #[]) (rc := ys) hs ht hu hj hz hzr hzs hlen (by omega) (by simpa using hfits) (by simp [Builtin.firstCells]) hnew (by simpa using hnewr) (by simpa using hsize')
              simpa using this
            · cases h0
        · rename_i hnil
          split at h0
          · rename_i c hcapx
            split at h0
            · rename_i hcond
              simp only [Bool.and_eq_true, decide_eq_true_eq] at hcond
              obtain ⟨⟨hlt, hfits⟩, hxsz⟩ := hcond
              split at h0
              · rename_i rc hrc
                split at h0
                · obtain ⟨rfl, rfl⟩ : V.sl h.next 0 j.size (len + n) none = v ∧ h.new rc = h' := by simpa using h0
                  have htoL := RC.app_toL hrc
                  have hrcs : rc.size = (len + n) * j.size := by
                    rw [← RC.size_toL, htoL, List.length_append, RC.size_toL, RC.size_toL, hxsz, hsize', Nat.add_mul]
                  obtain ⟨old, hold, holdr⟩ := firstCells_drew (P := P) hs hx hxs hlenx (Nat.le_refl len) hxsz
                  obtain ⟨new, hnew, hnewr⟩ := firstCells_drew (P := P) hs hy hys hn (Nat.le_refl n) hsize'
                  rw [List.take_of_length_le (by rw [RC.size_toL, hxsz]; exact Nat.le_refl _)] at holdr
                  rw [List.take_of_length_le (by rw [RC.size_toL, hsize']; exact Nat.le_refl _)] at hnewr
                  have hrel : RelL m rc.toL (old ++ new).toList := by rw [htoL, Array.toList_append]; exact holdr.append hnewr
                  have hshape : ∃ a, vx = .slice a len c := by
                    obtain ⟨a, l, e⟩ := capOf_sound hx hcapx
                    rcases lenV_shape hx hlenx with ⟨s, e2, _⟩ | ⟨a', c', e2, _⟩
                    · rw [e] at e2; cases e2
                    · rw [e] at e2; cases e2; exact ⟨_, e⟩
                  obtain ⟨a, rfl⟩ := hshape
                  exact grow_sound (ty := ty) hs ht hu hj hz hzr hzs hlen hlt hfits hold hnew hrel hrcs
                · cases h0
              · cases h0
            · cases h0
          · cases h0
        · cases h0
    · cases h0
  · cases h0

end Go.AM
