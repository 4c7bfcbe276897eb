/- make, conversions between strings and bytes, append, copy. -/
import Derived.Test.YtgfohimonbagmaaGreatDoorAMOps4
namespace Go.AM
open Go.RowKit (Below)

theorem wrap64_in {n : Int} (h0 : 0 ≤ n) (h1 : n ≤ 140737488355328) : IntKind.i64.wrap n = n := by
  unfold IntKind.wrap IntKind.bits IntKind.signed
  simp
  omega

theorem zeroRow_toL {int : Option IntKind} {z : List V} (hi : int = intOf z) (n : Nat) : (zeroRow int z n).toL = (List.replicate n z).flatten := by
  subst hi
  unfold zeroRow
  split
  · rename_i k hk
    unfold intOf at hk
    split at hk
    · rename_i k' q
      split at hk
      · rename_i hq
        obtain rfl := Option.some.inj hk
        simp only [beq_iff_eq] at hq
        subst hq
        simp [RC.toL]
      · cases hk
    · cases hk
  · rfl

theorem makeSlice_alloc {P : Program} {m : M} {h : H} {e : Env} {ρ : Operand → Value} (hρ : ORel P m e ρ) {t : TypeId} {l c : Operand} {i : I} {v : V} {h' : H}
    (hc : cMakeSlice P t l c = some i) (hi : iop e h i = some (v, h')) :
    ∃ rc vf, Lays e i rc vf ∧ AllocRun P m rc vf (Instr.makeSlice t (ρ l) (ρ c)) := by
  unfold cMakeSlice at hc
  split at hc
  · rename_i el hel
    split at hc
    · rename_i j z y x hj hz hy hx
      split at hc
      · cases hc
      · rename_i hsz0
        obtain ⟨j', zz, hj', hzz, hr, hsz, _⟩ := zeroL_sound (m := m) hz
        rw [hj] at hj'; obtain rfl := Option.some.inj hj'
        obtain rfl := Option.some.inj hc
        have rl := hρ l 0 y hy
        have rc := hρ c 0 x hx
        simp only [iop] at hi
        split at hi
        · rename_i k1 n k2 q e1 e2
          rw [e1] at rl; rw [e2] at rc
          split at hi
          · rename_i hcond
            simp only [Bool.and_eq_true, decide_eq_true_eq] at hcond
            obtain ⟨⟨⟨h0, h1⟩, h2⟩, h3⟩ := hcond
            refine ⟨zeroRow (intOf z) z q.toNat, fun b => .sl b 0 j.size n.toNat (some q.toNat), fun hh => by simp [iop, e1, e2, h0, h1, h2, h3], fun w => ?_⟩
            generalize ρ l = vl at rl ⊢
            generalize ρ c = vc at rc ⊢
            cases rl; cases rc
            have hzr := zeros_rel hr q.toNat
            have htoL := zeroRow_toL (int := intOf z) (z := z) rfl q.toNat
            have hsize : (zeroRow (intOf z) z q.toNat).size = q.toNat * j.size := by rw [← RC.size_toL, htoL]; simp [hsz]
            have hq : IntKind.i64.wrap q = q := wrap64_in (by omega) h3
            have hn : IntKind.i64.wrap n = n := wrap64_in h0 (by omega)
            have hb : ¬ ((281474976710656 : Int) < (j.bytes : Int) * q) := by rw [Int.mul_comm]; omega
            refine ⟨(Array.range (q.toNat * z.length)).map (zz.cells[· % zz.cells.size]!), el, (0, 0), .slice (some ⟨w.heap.size, 0, none⟩) n.toNat q.toNat, w.alloc (.cells _ el), ?_, ⟨rfl, rfl, rfl⟩, rfl, fun o _ => by simp, ?_, fun m' b hb => ?_⟩
            · have hask : ∀ n : Nat, (askRoom n).run P w = .ok () w := fun n => by
                unfold askRoom; split
                · simp [mark, Sem.run]
                · rfl
              have h4 : ¬ q < 0 := by omega
              have h5 : ¬ n < 0 := by omega
              have h6 : ¬ q < n := by omega
              simp only [Instr.makeSlice, Sem.run_bind, run_underlying hel, Result.andThen_ok, asInt, asIntOf, Sem.run_pure, run_info hj, hq, hn]
              simp only [show (2 ^ 48 : Int) = 281474976710656 by decide, gt_iff_lt, h4, hb, h5, h6, decide_false, Bool.or_self, Bool.false_eq_true, if_false, Sem.run_bind, hask, Result.andThen_ok, run_size hj]
              by_cases hq0 : q.toNat * j.size = 0
              · rw [if_pos hq0]
                simp only [Sem.run_bind, Sem.run_pure, Result.andThen_ok]
                rw [hsz, hq0]
                have : Array.range 0 = #[] := rfl
                simp [newRow, newObj, Sem.run, this]
              · rw [if_neg hq0]
                simp only [Sem.run_bind, Sem.run_pure, Result.andThen_ok, run_zero hj hzz]
                rw [hsz]
                simp [newRow, newObj, Sem.run]
            · rw [htoL, hsize, List.take_of_length_le (by simp [hsz])]; exact hzr
            · have := Rel.sl (m := m') b 0 j.size n.toNat (some q.toNat) _ q.toNat hb (by omega) (by simp [hsz]) (fun c' e => by simpa using e) (fun e => by cases e)
              simpa using this
          · cases hi
        · cases hi
    · cases hc
  · cases hc

theorem push_modify (a : Array Obj) (o : Obj) (f : Obj → Obj) : (a.push o).modify a.size f = a.push (f o) := by
  apply Array.ext_getElem?
  intro i
  simp only [Array.getElem?_modify, Array.getElem?_push]
  by_cases h : i = a.size
  · subst h; simp
  · rw [if_neg (fun x => h x.symm), if_neg h, if_neg h]

theorem run_markStringish {P : Program} {w : World} {k : Nat} {cells : Array Value} {el fz} (hk : w.heap[k]? = some (.cells cells el fz)) :
    (markStringish ⟨k, 0, none⟩).run P w = .ok () (w.freeze ⟨k, cells.size, none⟩ 1) := by
  have : w.shape? k = some (el, cells.size) := by simp [World.shape?, hk]
  simp [markStringish, shape, Sem.run, this]

theorem s2b_alloc {P : Program} {m : M} {src dst el : TypeId} {s : ByteArray} (hsrc : P.underlying src = some .string) (hdst : P.underlying dst = some (.slice el)) (hel : P.underlying el = some (.int .u8))
    {l : List Nat} (hl : s.data.toList.map (·.toNat) = l) (_hlen : l.length ≤ 140737488355328) :
    AllocRun P m (.is .u8 (l.map Int.ofNat)) (fun b => .sl b 0 1 l.length none) (convert src dst (.string s)) := by
  intro w
  have hsz : s.size = l.length := by rw [← hl]; simp
  generalize hcap : (Question.appendCap s.size 0 el).cut (w.tape w.drawn (.appendCap s.size 0 el)) = cap
  have hcap' : s.size ≤ cap := by rw [← hcap]; simp [Question.cut]
  have e1 : (convert src dst (.string s)).run P w = (Conv.stringToBytes el s).run P w := by
    simp [convert, run_underlying hsrc, run_underlying hdst, run_underlying hel]
  let cells : Array Value := (s.data.map fun b => .int .u8 b.toNat) ++ Array.replicate (cap - s.size) (.int .u8 0)
  have hcs : cells.size = cap := by
    simp only [cells, Array.size_append, Array.size_map, Array.size_replicate]
    have : s.data.size = s.size := rfl
    omega
  let w' : World := { w.drew with heap := w.heap.push (.cells cells el (cap, cap + 1)) }
  refine ⟨cells, el, (cap, cap + 1), .slice (some ⟨w.heap.size, 0, none⟩) s.size cap, w', ?_, ⟨rfl, rfl, rfl⟩, rfl, fun o ho => by rw [hcs] at ho; simp; omega, ?_, fun m' b hb => ?_⟩
  · rw [e1]
    unfold Conv.stringToBytes
    have hch : (choose (.appendCap s.size 0 el)).run P w = .ok cap w.drew := by
      rw [run_choose_drew]; simp [Question.forced, hcap]
    simp only [Sem.run_bind, hch, Result.andThen_ok]
    have hn : (newRow el cells).run P w.drew = .ok ⟨w.heap.size, 0, none⟩ (w.drew.alloc (.cells cells el)) := by
      simp [newRow, newObj, Sem.run]
      rfl
    rw [show ((Array.map (fun b => Value.int .u8 (b.toNat : Int)) s.data) ++ Array.replicate (cap - s.size) (.int .u8 0)) = cells from rfl, hn]
    simp only [Result.andThen_ok]
    rw [run_markStringish (cells := cells) (el := el) (fz := (0, 0)) (by show (w.heap.push _)[w.heap.size]? = _; simp)]
    simp only [Result.andThen_ok, Sem.run_pure]
    congr 1
    unfold World.freeze
    rw [if_neg (by decide)]
    show ({ w.drew with heap := (w.heap.push (.cells cells el)).modify w.heap.size _ } : World) = { w.drew with heap := w.heap.push (.cells cells el (cap, cap + 1)) }
    congr 1
    rw [push_modify]
    simp [hcs]
  · have hrl : cells.toList.take (RC.size (.is .u8 (l.map Int.ofNat))) = cells.toList.take (RC.size (.is .u8 (l.map Int.ofNat))) := rfl
    clear hrl
    have : cells.toList.take (RC.size (.is .u8 (l.map Int.ofNat))) = s.data.toList.map fun b => Value.int .u8 b.toNat := by
      simp only [cells, RC.size, Array.toList_append, Array.toList_map]
      rw [List.take_append_of_le_length (by simp [← hsz]), List.take_of_length_le (by simp [← hsz])]
    rw [this, ← hl]
    refine RelL.of_get _ _ (by simp [RC.toL]) fun j h1 h2 => ?_
    simp only [RC.toL, List.getElem_map]
    exact .int _ _
  · rw [hsz]
    have := Rel.sl (m := m') b 0 1 l.length none _ cap hb (by omega) (by simp [hcs]) (fun c' e => by cases e) (fun _ => by simp [RC.size]; omega)
    simpa using this

/-! What is appended, copied, read. -/

theorem RC.toL_take (r : RC) (n : Nat) : (r.take n).toL = r.toL.take n := by
  cases r <;> simp [RC.take, RC.toL]

theorem RC.size_take (r : RC) (n : Nat) : (r.take n).size = Nat.min n r.size := by
  cases r <;> simp [RC.take, RC.size, Nat.min_def]

/-- The first cells of a slice or string. -/
theorem elems_sound {P : Program} {m : M} {B h w} (hs : Sim m B h w) {sz : Nat} {x : V} {vx : Value} {rc : RC} {n k : Nat} (hx : Rel m x vx) (he : elems h sz x = some rc) (hn : lenV x = some n) (hk : k ≤ n) (hsz : rc.size = n * sz) :
    ∃ arr : Array Value, (Builtin.firstCells sz k vx).run P w = .ok arr w ∧ RelL m (rc.toL.take (k * sz)) arr.toList := by
  have hks : k * sz ≤ n * sz := Nat.mul_le_mul_right _ hk
  have cellsOf : ∀ (a : Addr) (vs : List Value), vs.length = k * sz → (∀ j v, vs[j]? = some v → w.cell? (a.add j) = some v) → (loadCells a (k * sz)).run P w = .ok vs.toArray w := by
    intro a vs hl hc
    rw [← hl]; exact run_loadCells_list w a vs hc
  cases hx with
  | intsn k' cap hcap =>
    simp only [lenV, List.length_nil, Option.some.injEq] at hn
    subst hn
    obtain rfl : k = 0 := by omega
    exact ⟨#[], by simp [Builtin.firstCells], by simp; exact .nil⟩
  | lstn sz' cap hcap =>
    simp only [lenV, Option.some.injEq] at hn
    subst hn
    obtain rfl : k = 0 := by omega
    exact ⟨#[], by simp [Builtin.firstCells], by simp; exact .nil⟩
  | intse k' cap a c hcap =>
    simp only [lenV, List.length_nil, Option.some.injEq] at hn
    subst hn
    obtain rfl : k = 0 := by omega
    refine ⟨#[], ?_, by rw [Nat.zero_mul, List.take_zero]; exact .nil⟩
    simp only [Builtin.firstCells]
    exact cellsOf _ [] (by simp) (fun j v hv => by simp at hv)
  | lste sz' cap a c hcap =>
    simp only [lenV, Option.some.injEq] at hn
    subst hn
    obtain rfl : k = 0 := by omega
    refine ⟨#[], ?_, by rw [Nat.zero_mul, List.take_zero]; exact .nil⟩
    simp only [Builtin.firstCells]
    exact cellsOf _ [] (by simp) (fun j v hv => by simp at hv)
  | ints k' zs cap Bk off cs c hG hcc hl hcap =>
    simp only [elems] at he
    split at he
    · rename_i h1
      simp only [beq_iff_eq] at h1
      subst h1
      obtain rfl := Option.some.inj he
      simp only [lenV, Option.some.injEq] at hn
      subst hn
      simp only [Nat.mul_one] at *
      refine ⟨((zs.take k).map (Value.int k')).toArray, ?_, ?_⟩
      · simp only [Builtin.firstCells, Nat.mul_one]
        refine cellsOf _ _ (by simp; omega) fun j v hv => ?_
        rw [Addr.add_lit, hs.dataCell hG]
        have hj : j < k := by
          have := (List.getElem?_eq_some_iff.1 hv).1; simp at this; omega
        rw [hcc j (by omega)]
        rw [List.getElem?_map, List.getElem?_take_of_lt hj, List.getElem?_eq_getElem (by omega)] at hv
        simpa using hv
      · simp only [RC.toL, ← List.map_take]
        refine RelL.of_get _ _ (by simp) fun j h1 h2 => ?_
        simp only [List.getElem_map]
        exact .int _ _
    · cases he
  | lst sz' n' xs cap Bk off cs c ws hG hnl hcc hr hl hcap =>
    simp only [elems] at he
    split at he
    · rename_i h1
      simp only [beq_iff_eq] at h1
      subst h1
      obtain rfl := Option.some.inj he
      simp only [lenV, Option.some.injEq] at hn
      subst hn
      refine ⟨((List.range (k * sz)).map ws).toArray, ?_, ?_⟩
      · simp only [Builtin.firstCells]
        refine cellsOf _ _ (by simp) fun j v hv => ?_
        have hj : j < k * sz := by
          have := (List.getElem?_eq_some_iff.1 hv).1; simpa using this
        rw [Addr.add_lit, hs.dataCell hG, hcc j (by omega)]
        rw [List.getElem?_map, List.getElem?_range hj] at hv
        exact hv
      · simp only [RC.toL]
        refine RelL.of_get _ _ (by simp; omega) fun j h1 h2 => ?_
        simp only [List.getElem_take, List.getElem_map, List.getElem_range]
        exact hr j (by simp at h1; omega)
    · cases he
  | str s l hl =>
    simp only [elems] at he
    split at he
    · rename_i h1
      simp only [beq_iff_eq] at h1
      subst h1
      obtain rfl := Option.some.inj he
      simp only [lenV, Option.some.injEq] at hn
      subst hn
      simp only [Nat.mul_one] at *
      have hsz2 : s.data.size = l.length := by rw [← hl]; simp
      refine ⟨(s.extract 0 k).data.map fun b => .int .u8 b.toNat, by simp [Builtin.firstCells], ?_⟩
      refine RelL.of_get _ _ ?_ fun j h1 h2 => ?_
      · have : s.size = s.data.size := rfl
        simp [RC.toL, ByteArray.data_extract]; omega
      · simp only [RC.toL, List.getElem_take, List.getElem_map]
        simp only [ByteArray.data_extract, Array.toList_map, List.getElem_map, Array.getElem_toList, Array.getElem_extract]
        subst hl
        simp only [List.getElem_map, Array.getElem_toList, Nat.zero_add]
        exact .int _ _
    · cases he
  | sl b o sz' len cap p c hb hl hc hcap hrow =>
    simp only [elems] at he
    split at he
    · rename_i h1
      simp only [beq_iff_eq] at h1
      subst h1
      simp only [lenV, Option.some.injEq] at hn
      subst hn
      split at he
      · rename_i r hr
        have hcells := hs.cellsAt hb hr
        -- the part of the row
        have hpart : ∃ l : List V, rc.toL = l ∧ l = (r.c.toL.drop o).take (len * sz) ∧ o + len * sz ≤ r.c.size := by
          split at he
          · rename_i k' zs hz
            split at he
            · rename_i hle
              obtain rfl := Option.some.inj he
              refine ⟨_, rfl, ?_, ?_⟩
              · rw [hz]; simp [RC.toL, List.map_drop, List.map_take]
              · rw [hz]; simpa [RC.size] using hle
            · cases he
          · rename_i xs hz
            split at he
            · rename_i hle
              obtain rfl := Option.some.inj he
              refine ⟨_, rfl, ?_, ?_⟩
              · rw [hz]; simp [RC.toL]
              · rw [hz]; simpa [RC.size] using hle
            · cases he
        obtain ⟨l, hl1, hl2, hl3⟩ := hpart
        have hv : ∀ q, q < k * sz → ∃ v, w.cell? ⟨p.blk, p.base + o + q, none⟩ = some v ∧ ∃ x, rc.toL[q]? = some x ∧ Rel m x v := by
          intro q hq
          have hlt : o + q < r.c.toL.length := by rw [RC.size_toL]; omega
          obtain ⟨v, hv, hrel⟩ := hcells (o + q) (r.c.toL[o + q]) (by rw [RC.get_toL]; exact List.getElem?_eq_getElem hlt)
          refine ⟨v, by rw [Nat.add_assoc]; exact hv, r.c.toL[o + q], ?_, hrel⟩
          rw [hl1, hl2, List.getElem?_take_of_lt (by omega), List.getElem?_drop, List.getElem?_eq_getElem hlt]
        refine ⟨((List.range (k * sz)).map fun q => (w.cell? ⟨p.blk, p.base + o + q, none⟩).getD undef).toArray, ?_, ?_⟩
        · simp only [Builtin.firstCells]
          refine cellsOf _ _ (by simp) fun j v hj => ?_
          have hjl : j < k * sz := by
            have := (List.getElem?_eq_some_iff.1 hj).1; simpa using this
          obtain ⟨v', hv', _⟩ := hv j hjl
          rw [Addr.add_lit, hv']
          rw [List.getElem?_map, List.getElem?_range hjl, Option.map_some, hv'] at hj
          exact hj
        · refine RelL.of_get _ _ (by rw [List.length_take, RC.size_toL, hsz, Nat.min_eq_left hks]; simp) fun j h1 h2 => ?_
          have hjl : j < k * sz := by simpa using h2
          obtain ⟨v', hv', x, hx, hrel⟩ := hv j hjl
          simp only [List.getElem_take, List.getElem_map, List.getElem_range, hv', Option.getD_some]
          have h1' : j < rc.toL.length := by rw [RC.size_toL]; omega
          rw [List.getElem?_eq_getElem h1'] at hx
          rw [Option.some.inj hx]; exact hrel
      · cases he
    · cases he
  | _ => simp [lenV] at hn

theorem lenOf_sound {P : Program} {m : M} {w : World} {x : V} {vx : Value} {n : Nat} (hx : Rel m x vx) (hn : lenV x = some n) : (Builtin.lenOf vx).run P w = .ok n w := by
  rcases lenV_shape hx hn with ⟨s, rfl, rfl⟩ | ⟨a, c, rfl, _⟩
  · simp [Builtin.lenOf]
  · simp [Builtin.lenOf]

theorem RC.over_spec {r s r' : RC} {o : Nat} (h : r.over o s = some r') : r'.size = r.size ∧ o + s.size ≤ r.size ∧ (∀ x ∈ s.toL, x.isCell = true) ∧ ∀ j, r'.get j = if o ≤ j ∧ j < o + s.toL.length then s.toL[j - o]? else r.get j := by
  have key : ∀ {α : Type} (a b : List α) (o j : Nat), o + b.length ≤ a.length → (a.take o ++ b ++ a.drop (o + b.length))[j]? = if o ≤ j ∧ j < o + b.length then b[j - o]? else a[j]? := by
    intro α a b o j hle
    have h1 : (a.take o).length = o := by simp; omega
    by_cases c1 : j < o
    · rw [if_neg (by omega), List.append_assoc, List.getElem?_append_left (by omega), List.getElem?_take_of_lt c1]
    · by_cases c2 : j < o + b.length
      · rw [if_pos ⟨by omega, c2⟩, List.getElem?_append_left (by simp; omega), List.getElem?_append_right (by omega), h1]
      · rw [if_neg (by omega), List.getElem?_append_right (by simp; omega), List.getElem?_drop]
        congr 1; simp; omega
  unfold RC.over at h
  split at h
  · rename_i k zs k' ys
    split at h
    · rename_i hc
      simp only [Bool.and_eq_true, beq_iff_eq, decide_eq_true_eq] at hc
      obtain ⟨rfl, hle⟩ := hc
      obtain rfl := Option.some.inj h
      refine ⟨by simp [RC.size]; omega, hle, by simp [RC.toL, V.isCell], fun j => ?_⟩
      rw [RC.get_toL, RC.get_toL]
      simp only [RC.toL, List.map_append, List.map_take, List.map_drop, List.length_map]
      have := key (zs.map (V.int k)) (ys.map (V.int k)) o j (by simpa using hle)
      simpa using this
    · cases h
  · rename_i xs ys
    split at h
    · rename_i hc
      simp only [Bool.and_eq_true, decide_eq_true_eq] at hc
      obtain ⟨hle, hall⟩ := hc
      obtain rfl := Option.some.inj h
      refine ⟨by simp [RC.size]; omega, hle, fun x hx => List.all_eq_true.1 hall x hx, fun j => ?_⟩
      exact key xs ys o j hle
    · cases h
  · cases h

theorem run_askRoom {P : Program} (n : Nat) (w : World) : (askRoom n).run P w = .ok () w := by
  unfold askRoom; split
  · simp [mark, Sem.run]
  · rfl

/-- COPY. -/
theorem copyV_sound {P : Program} {m : M} {B h h' w} (hs : Sim m B h w) {t u ty el : TypeId} {j : TypeInfo} {x y v : V} {vx vy : Value} (ht : P.underlying t = some (.slice el)) (hj : P.info? el = some j)
    (hx : Rel m x vx) (hy : Rel m y vy) (hc : copyV h j.size x y = some (v, h')) :
    ∃ w', (Builtin.copy_ #[t, u] ty #[vx, vy]).run P w = .ok (.int .i64 (match v with | .int _ n => n | _ => 0)) w' ∧ (∃ n, v = .int .i64 n) ∧ Sim m B h' w' ∧ Grows B m m h h' w w' := by
  unfold copyV at hc
  split at hc
  · rename_i mm n ys hm hn hys
    simp only at hc
    split at hc
    · rename_i b o sz' len cap
      split at hc
      · rename_i hcond
        simp only [Bool.and_eq_true, beq_iff_eq, decide_eq_true_eq] at hcond
        obtain ⟨rfl, hsize⟩ := hcond
        split at hc
        · rename_i r hr
          split at hc
          · rename_i rc hrc
            obtain ⟨rfl, rfl⟩ : V.int .i64 (Nat.min n mm : Nat) = v ∧ h.put b rc = h' := by simpa using hc
            cases hx with
            | sl _ _ _ _ _ p c hb hl hcc hcap hrow =>
              simp only [lenV, Option.some.injEq] at hm
              subst hm
              obtain ⟨arr, harr, hrel⟩ := elems_sound (P := P) hs hy hys hn (Nat.min_le_left n len) hsize
              obtain ⟨s1, s2, s3, s4⟩ := RC.over_spec hrc
              rw [RC.toL_take] at s3 s4
              have hlen : (ys.toL.take (Nat.min n len * j.size)).length = (ys.take (Nat.min n len * j.size)).size := by rw [← RC.size_toL, RC.toL_take]
              obtain ⟨w', hrun, hsim⟩ := hs.writes (P := P) hb hr (i := o) s1 (fun _ => by rw [hlen]; exact s2) s4 s3 hrel
              refine ⟨w', ?_, ⟨_, rfl⟩, hsim⟩
              simp [Builtin.copy_, run_underlying ht, lenOf_sound hy hn, run_size hj, harr, hrun, goInt]
          · cases hc
        · cases hc
      · cases hc
    · cases hc
  · cases hc

end Go.AM
