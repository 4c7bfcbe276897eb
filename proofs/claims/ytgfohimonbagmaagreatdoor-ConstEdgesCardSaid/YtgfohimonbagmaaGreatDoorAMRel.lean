/- The relation between the abstract machine's values and heap and those of the model. -/
import Derived.Test.YtgfohimonbagmaaGreatDoorAMDefs
import Derived.WalkKit
import Derived.WalkLawsBesides
namespace Go.AM
open Go.RowKit (Below)

/-- Where a block of the abstract heap lies: a block of the world, the cell where it begins, how many cells the block has. -/
structure Pl where
  blk : Nat
  base : Nat
  lim : Nat
  rsz : Nat

/-- Where the heap lies, and which blocks of the world are data, with their cells. -/
structure M where
  φ : Nat → Option Pl
  G : Nat → Option (Array Value)
  μ : Nat → Option Nat

inductive Rel (m : M) : V → Value → Prop
  | undef (v) : Rel m .undef v
  | bool (b) : Rel m (.bool b) (.bool b)
  | int (k n) : Rel m (.int k n) (.int k n)
  | flt (k n) : Rel m (.flt k n) (.float k n)
  | str (s : ByteArray) (l) (h : s.data.toList.map (·.toNat) = l) : Rel m (.str l) (.string s)
  | ptr (b o p) (h : m.φ b = some p) : Rel m (.ptr b o) (.pointer (some ⟨p.blk, p.base + o, none⟩))
  | pint (k zs i B off cs) (hG : m.G B = some cs) (hc : ∀ j (_ : j < zs.length), cs[off + j]? = some (.int k zs[j])) : Rel m (.pint k zs i) (.pointer (some ⟨B, off + i, none⟩))
  | plst (xs i B off cs) (ws : Nat → Value) (hG : m.G B = some cs) (hc : ∀ j, j < xs.length → cs[off + j]? = some (ws j)) (hr : ∀ j (h : j < xs.length), Rel m xs[j] (ws j)) : Rel m (.plst xs i) (.pointer (some ⟨B, off + i, none⟩))
  | nilp : Rel m .nilp (.pointer none)
  | sl (b o sz len cap p c) (h : m.φ b = some p) (hl : len ≤ c) (hc : p.base + o + c * sz ≤ p.lim) (hcap : ∀ c', cap = some c' → c = c') (hrow : cap = none → p.rsz ≤ o + c * sz) : Rel m (.sl b o sz len cap) (.slice (some ⟨p.blk, p.base + o, none⟩) len c)
  | intsn (k cap) (hcap : ∀ c', cap = some c' → 0 = c') : Rel m (.ints k true [] cap) (.slice none 0 0)
  | ints (k zs cap B off cs c) (hG : m.G B = some cs) (hc : ∀ j (_ : j < zs.length), cs[off + j]? = some (.int k zs[j])) (hl : zs.length ≤ c) (hcap : ∀ c', cap = some c' → c = c') : Rel m (.ints k false zs cap) (.slice (some ⟨B, off, none⟩) zs.length c)
  | intse (k cap a c) (hcap : ∀ c', cap = some c' → c = c') : Rel m (.ints k false [] cap) (.slice (some a) 0 c)
  | lste (sz cap a c) (hcap : ∀ c', cap = some c' → c = c') : Rel m (.lst sz false 0 [] cap) (.slice (some a) 0 c)
  | lstn (sz cap) (hcap : ∀ c', cap = some c' → 0 = c') : Rel m (.lst sz true 0 [] cap) (.slice none 0 0)
  | lst (sz n xs cap B off cs c) (ws : Nat → Value) (hG : m.G B = some cs) (hn : xs.length = n * sz) (hc : ∀ j, j < xs.length → cs[off + j]? = some (ws j)) (hr : ∀ j (h : j < xs.length), Rel m xs[j] (ws j)) (hl : n ≤ c) (hcap : ∀ c', cap = some c' → c = c') : Rel m (.lst sz false n xs cap) (.slice (some ⟨B, off, none⟩) n c)
  | func (f fst cap) (a c : Array Value) (ha : fst.length = a.size) (hc : cap.length = c.size) (hra : ∀ j (h : j < fst.length) (h' : j < a.size), Rel m fst[j] a[j]) (hrc : ∀ j (h : j < cap.length) (h' : j < c.size), Rel m cap[j] c[j]) : Rel m (.func f fst cap) (.func (.func f) a c)
  | nilf : Rel m .nilf .nilFunc
  | agg (xs) (a : Array Value) (hs : xs.length = a.size) (hr : ∀ j (h : j < xs.length) (h' : j < a.size), Rel m xs[j] a[j]) : Rel m (.agg xs) (.agg a)
  | tup (xs) (a : Array Value) (hs : xs.length = a.size) (hr : ∀ j (h : j < xs.length) (h' : j < a.size), Rel m xs[j] a[j]) : Rel m (.tup xs) (.tuple a)
  | map (b r) (h : m.μ b = some r) : Rel m (.map b) (.map (some r))
  | nilmap : Rel m .nilmap (.map none)

/-- Lists of values. -/
inductive RelL (m : M) : List V → List Value → Prop
  | nil : RelL m [] []
  | cons {x v l r} (h : Rel m x v) (t : RelL m l r) : RelL m (x :: l) (v :: r)

theorem RelL.length {m l r} (h : RelL m l r) : l.length = r.length := by
  induction h with
  | nil => rfl
  | cons _ _ ih => simp [ih]

theorem RelL.get {m l r} (h : RelL m l r) : ∀ j (h1 : j < l.length) (h2 : j < r.length), Rel m l[j] r[j] := by
  induction h with
  | nil => intro j h1; simp at h1
  | cons hx _ ih =>
    intro j h1 h2
    cases j with
    | zero => exact hx
    | succ j => exact ih j (by simpa using h1) (by simpa using h2)

theorem RelL.of_get {m} : ∀ (l : List V) (r : List Value), l.length = r.length → (∀ j (h1 : j < l.length) (h2 : j < r.length), Rel m l[j] r[j]) → RelL m l r
  | [], [], _, _ => .nil
  | [], _ :: _, h, _ => by simp at h
  | _ :: _, [], h, _ => by simp at h
  | x :: l, v :: r, h, hr => .cons (hr 0 (by simp) (by simp)) (RelL.of_get l r (by simpa using h) fun j h1 h2 => hr (j + 1) (by simpa using h1) (by simpa using h2))

theorem RelL.append {m l r l' r'} (h : RelL m l r) (h' : RelL m l' r') : RelL m (l ++ l') (r ++ r') := by
  induction h with
  | nil => exact h'
  | cons hx _ ih => exact .cons hx ih

theorem RelL.take {m l r} (h : RelL m l r) : ∀ n, RelL m (l.take n) (r.take n) := by
  induction h with
  | nil => intro n; simpa using RelL.nil
  | cons hx _ ih => intro n; cases n with
    | zero => exact .nil
    | succ n => exact .cons hx (ih n)

theorem RelL.drop {m l r} (h : RelL m l r) : ∀ n, RelL m (l.drop n) (r.drop n) := by
  induction h with
  | nil => intro n; simpa using RelL.nil
  | cons hx t ih => intro n; cases n with
    | zero => exact .cons hx t
    | succ n => exact ih n

theorem rel_agg {m xs} {a : Array Value} (h : RelL m xs a.toList) : Rel m (.agg xs) (.agg a) :=
  .agg xs a (by simpa using h.length) fun j h1 h2 => by have := h.get j h1 (by simpa using h2); rwa [Array.getElem_toList] at this
theorem rel_tup {m xs} {a : Array Value} (h : RelL m xs a.toList) : Rel m (.tup xs) (.tuple a) :=
  .tup xs a (by simpa using h.length) fun j h1 h2 => by have := h.get j h1 (by simpa using h2); rwa [Array.getElem_toList] at this
theorem relL_of_agg {m xs} {a : Array Value} (h : Rel m (.agg xs) (.agg a)) : RelL m xs a.toList := by
  cases h with
  | agg _ _ hs hr => exact RelL.of_get _ _ (by simpa using hs) fun j h1 h2 => by simpa using hr j h1 (by simpa using h2)
theorem relL_of_tup {m xs} {a : Array Value} (h : Rel m (.tup xs) (.tuple a)) : RelL m xs a.toList := by
  cases h with
  | tup _ _ hs hr => exact RelL.of_get _ _ (by simpa using hs) fun j h1 h2 => by simpa using hr j h1 (by simpa using h2)

/-- More is known. -/
structure M.Le (m m' : M) : Prop where
  φ : ∀ b p, m.φ b = some p → m'.φ b = some p
  G : ∀ k cs, m.G k = some cs → m'.G k = some cs
  μ : ∀ b r, m.μ b = some r → m'.μ b = some r

theorem M.Le.refl (m : M) : m.Le m := ⟨fun _ _ h => h, fun _ _ h => h, fun _ _ h => h⟩
theorem M.Le.trans {a b c : M} (h : a.Le b) (k : b.Le c) : a.Le c := ⟨fun x p e => k.φ x p (h.φ x p e), fun x p e => k.G x p (h.G x p e), fun x p e => k.μ x p (h.μ x p e)⟩

theorem Rel.mono {m m' : M} (hm : m.Le m') {x v} (h : Rel m x v) : Rel m' x v := by
  induction h with
  | undef v => exact .undef v
  | bool b => exact .bool b
  | int k n => exact .int k n
  | flt k n => exact .flt k n
  | str s l h => exact .str s l h
  | ptr b o p h => exact .ptr b o p (hm.φ _ _ h)
  | pint k zs i B off cs hG hc => exact .pint k zs i B off cs (hm.G _ _ hG) hc
  | plst xs i B off cs ws hG hc _ ih => exact .plst xs i B off cs ws (hm.G _ _ hG) hc ih
  | nilp => exact .nilp
  | sl b o sz len cap p c h hl hc hcap hrow => exact .sl b o sz len cap p c (hm.φ _ _ h) hl hc hcap hrow
  | intsn k cap h => exact .intsn k cap h
  | ints k zs cap B off cs c hG hc hl hcap => exact .ints k zs cap B off cs c (hm.G _ _ hG) hc hl hcap
  | intse k cap a c h => exact .intse k cap a c h
  | lste sz cap a c h => exact .lste sz cap a c h
  | lstn sz cap h => exact .lstn sz cap h
  | lst sz n xs cap B off cs c ws hG hn hc _ hl hcap ih => exact .lst sz n xs cap B off cs c ws (hm.G _ _ hG) hn hc ih hl hcap
  | func f fst cap a c ha hc _ _ i1 i2 => exact .func f fst cap a c ha hc i1 i2
  | nilf => exact .nilf
  | agg xs a hs _ ih => exact .agg xs a hs ih
  | tup xs a hs _ ih => exact .tup xs a hs ih
  | map b r h => exact .map b r (hm.μ _ _ h)
  | nilmap => exact .nilmap

theorem RelL.mono {m m' : M} (hm : m.Le m') {l r} (h : RelL m l r) : RelL m' l r := by
  induction h with
  | nil => exact .nil
  | cons hx _ ih => exact .cons (hx.mono hm) ih

/-- A map's entries. -/
inductive EntL (m : M) : List (V × V) → List MapEntry → Prop
  | nil : EntL m [] []
  | cons {k v e l r} (hk : Rel m k e.key) (hv : Rel m v e.val) (t : EntL m l r) : EntL m ((k, v) :: l) (e :: r)

theorem EntL.mono {m m' : M} (hm : m.Le m') {l r} (h : EntL m l r) : EntL m' l r := by
  induction h with
  | nil => exact .nil
  | cons hk hv _ ih => exact .cons (hk.mono hm) (hv.mono hm) ih

/-- The abstract heap lies in the world: from block B on, apart from the data. -/
structure Sim (m : M) (B : Nat) (h : H) (w : World) : Prop where
  bound : B ≤ w.heap.size
  dom : ∀ b p, m.φ b = some p → b < h.rows.length
  own : ∀ b p, m.φ b = some p → B ≤ p.blk ∧ m.G p.blk = none ∧ ∃ cs el fz, w.heap[p.blk]? = some (.cells cs el fz) ∧ cs.size = p.lim ∧ ∀ o, o < p.lim → w.frozen? ⟨p.blk, o, none⟩ = false
  cells : ∀ b p r, m.φ b = some p → h.row b = some r → r.c.size = p.rsz ∧ p.base + r.c.size ≤ p.lim ∧ ∀ i x, r.c.get i = some x → ∃ v, w.cell? ⟨p.blk, p.base + i, none⟩ = some v ∧ Rel m x v
  inj : ∀ b b' p p', m.φ b = some p → m.φ b' = some p' → (h.row b).isSome → (h.row b').isSome → p.blk = p'.blk → b = b'
  ghost : ∀ k cs, m.G k = some cs → ∃ el fz, w.heap[k]? = some (.cells cs el fz)
  maps : ∀ b r, m.μ b = some r → B ≤ r ∧ ∃ l es clk, h.maps[b]? = some l ∧ w.heap[r]? = some (.map es clk) ∧ EntL m l es.toList
  minj : ∀ b b' r, m.μ b = some r → m.μ b' = some r → b = b'

/-- Maps that no one turns. -/
theorem Sim.keepMaps {m m' : M} {B : Nat} {h h' : H} {w w' : World} (hs : Sim m B h w) (hle : m.Le m') (hμ : m'.μ = m.μ) (hm : h'.maps = h.maps) (hk : ∀ (r : Nat) (es : Array MapEntry) (clk : Nat), w.heap[r]? = some (Obj.map es clk) → w'.heap[r]? = some (Obj.map es clk)) :
    ∀ b r, m'.μ b = some r → B ≤ r ∧ ∃ l es clk, h'.maps[b]? = some l ∧ w'.heap[r]? = some (.map es clk) ∧ EntL m' l es.toList := by
  intro b r e
  rw [hμ] at e
  obtain ⟨h1, l, es, clk, h2, h3, h4⟩ := hs.maps b r e
  exact ⟨h1, l, es, clk, by rw [hm]; exact h2, hk _ _ _ h3, h4.mono hle⟩
theorem Sim.keepInj {m m' : M} {B h w} (hs : Sim m B h w) (hμ : m'.μ = m.μ) : ∀ b b' r, m'.μ b = some r → m'.μ b' = some r → b = b' := by
  rw [hμ]; exact hs.minj

/-- What a step leaves. -/
structure Grows (B : Nat) (m m' : M) (h h' : H) (w w' : World) : Prop where
  le : m.Le m'
  below : Below B w w'
  rest : ∀ b, b < h.rows.length → m.φ b = none → m'.φ b = none ∧ h'.rows[b]? = h.rows[b]?
  len : h.rows.length ≤ h'.rows.length
  ghost : ∀ k, m'.G k ≠ none → m.G k ≠ none ∨ w.heap.size ≤ k

theorem Grows.refl (B m h w) : Grows B m m h h w w := ⟨M.Le.refl m, Below.refl B w, fun _ _ e => ⟨e, rfl⟩, Nat.le_refl _, fun _ e => .inl e⟩
theorem Grows.trans {B m1 m2 m3 h1 h2 h3 w1 w2 w3} (a : Grows B m1 m2 h1 h2 w1 w2) (b : Grows B m2 m3 h2 h3 w2 w3) : Grows B m1 m3 h1 h3 w1 w3 := by
  refine ⟨a.le.trans b.le, a.below.trans b.below, fun x hx e => ?_, Nat.le_trans a.len b.len, fun k hk => ?_⟩
  · obtain ⟨e2, r2⟩ := a.rest x hx e
    obtain ⟨e3, r3⟩ := b.rest x (Nat.lt_of_lt_of_le hx a.len) e2
    exact ⟨e3, r3.trans r2⟩
  · rcases b.ghost k hk with h | h
    · exact a.ghost k h
    · exact .inr (Nat.le_trans a.below.size h)

theorem isCell_shape {m : M} {x : V} {v : Value} (h : Rel m x v) (hc : x.isCell = true) : (∀ a, v ≠ .agg a) ∧ (∀ a, v ≠ .tuple a) := by
  cases h <;> first | (simp [V.isCell] at hc; done) | (constructor <;> intro a <;> simp)

end Go.AM
