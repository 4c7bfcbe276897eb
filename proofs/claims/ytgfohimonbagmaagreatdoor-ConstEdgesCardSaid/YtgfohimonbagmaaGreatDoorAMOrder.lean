/- Orders of a region: what an order that the model draws keeps; the abstract machine's own run, step by step. -/
import Derived.Test.YtgfohimonbagmaaGreatDoorAMPlan
namespace Go.AM

theorem sub_len : ∀ (l m : List Nat), l.Nodup → (∀ x ∈ l, x ∈ m) → l.length ≤ m.length
  | [], m, _, _ => by simp
  | x :: l, m, hn, hs => by
    have hx := hs x (List.mem_cons_self ..)
    have h1 := sub_len l (m.erase x) (List.nodup_cons.1 hn).2 fun y hy => by
      have hne : y ≠ x := fun e => (List.nodup_cons.1 hn).1 (e ▸ hy)
      exact (List.mem_erase_of_ne hne).2 (hs y (List.mem_cons_of_mem _ hy))
    rw [List.length_erase_of_mem hx] at h1
    have : 0 < m.length := List.length_pos_of_mem hx
    simp; omega

theorem all_of_nodup {n : Nat} {l : List Nat} (hn : l.Nodup) (hlt : ∀ x ∈ l, x < n) (hlen : l.length = n) (i : Nat) (hi : i < n) : i ∈ l := by
  refine Classical.byContradiction fun hni => ?_
  have := sub_len l ((List.range n).erase i) hn fun y hy => by
    have hne : y ≠ i := fun e => hni (e ▸ hy)
    exact (List.mem_erase_of_ne hne).2 (List.mem_range.2 (hlt y hy))
  rw [List.length_erase_of_mem (List.mem_range.2 hi), List.length_range] at this
  omega

/-- What is listed, with one more. -/
def plus (D : Nat → Bool) (i : Nat) : Nat → Bool := fun x => x == i || D x

/-- An order that keeps the edges. -/
def ValidL (edges : Nat → List Nat) (n : Nat) : (Nat → Bool) → List Nat → Prop
  | _, [] => True
  | D, i :: r => i < n ∧ D i = false ∧ (∀ e ∈ edges i, D e = true) ∧ ValidL edges n (plus D i) r

theorem ValidL.congr {edges : Nat → List Nat} {n : Nat} : ∀ {l : List Nat} {D D' : Nat → Bool}, (∀ x, x < n → D x = D' x) → (∀ i, i < n → ∀ e ∈ edges i, e < n) → ValidL edges n D l → ValidL edges n D' l
  | [], _, _, _, _, _ => trivial
  | i :: r, D, D', h, he, ⟨h1, h2, h3, h4⟩ => by
    refine ⟨h1, (h i h1) ▸ h2, fun e hm => (h e (he i h1 e hm)) ▸ h3 e hm, ?_⟩
    refine ValidL.congr (fun x hx => ?_) he h4
    simp only [plus, h x hx]

/-- Whatever is listed in the end. -/
def after (D : Nat → Bool) : List Nat → Nat → Bool
  | [] => D
  | i :: r => after (plus D i) r

theorem after_mem : ∀ (l : List Nat) (D : Nat → Bool) (x : Nat), after D l x = (D x || l.contains x)
  | [], D, x => by simp [after]
  | i :: r, D, x => by
    rw [after, after_mem r]
    simp only [plus, List.contains_cons]
    cases D x <;> cases (x == i) <;> simp

theorem binds_any {m : Region.Mode} {e : Edge} (h : Region.binds .any e = true) : Region.binds m e = true := by
  unfold Region.binds at *
  cases hg : e.ground <;> rw [hg] at h <;> simp_all

/-- Is operation i ready, by what is listed? -/
def ready (m : Region.Mode) (ops : Array Oper) (listed : Array Bool) (i : Nat) : Bool :=
  !listed.getD i true && ((ops[i]?).map (·.after.all fun e => !Region.binds m e || listed.getD e.on false)).getD false

theorem go_eq (m : Region.Mode) (ops : Array Oper) (n t : Nat) (listed : Array Bool) (acc : List Nat) :
    Region.linearise.go m ops (n + 1) t listed acc =
      match ((List.range ops.size).filter (ready m ops listed))[t % ((List.range ops.size).filter (ready m ops listed)).length]? with
      | some i => Region.linearise.go m ops n (t / ((List.range ops.size).filter (ready m ops listed)).length) (listed.setIfInBounds i true) (i :: acc)
      | none => acc.reverse := rfl

theorem getD_set (a : Array Bool) (i x : Nat) (d : Bool) (hi : i < a.size) : (a.setIfInBounds i true).getD x d = (x == i || a.getD x d) := by
  simp only [Array.getD_eq_getD_getElem?, Array.getElem?_setIfInBounds]
  by_cases h : i = x
  · subst h; simp [hi]
  · rw [if_neg h]
    have : (x == i) = false := by simpa using fun e => h e.symm
    simp [this]

theorem ready_spec {m : Region.Mode} {ops : Array Oper} {listed : Array Bool} {i : Nat} (hs : listed.size = ops.size) (h : ready m ops listed i = true) :
    i < ops.size ∧ listed.getD i false = false ∧ ∀ e ∈ edgesAt ops i, listed.getD e false = true := by
  unfold ready at h
  simp only [Bool.and_eq_true, Bool.not_eq_true'] at h
  obtain ⟨h1, h2⟩ := h
  cases ho : ops[i]? with
  | none => rw [ho] at h2; simp at h2
  | some o =>
    have hlt : i < ops.size := (Array.getElem?_eq_some_iff.1 ho).1
    refine ⟨hlt, ?_, fun e he => ?_⟩
    · rw [Array.getD_eq_getD_getElem?, Array.getElem?_eq_getElem (by omega)] at h1 ⊢
      exact h1
    · unfold edgesAt at he
      rw [ho] at he h2
      simp only [edgesOf, List.mem_map, List.mem_filter] at he
      obtain ⟨x, ⟨hx, hb⟩, rfl⟩ := he
      simp only [Option.map_some, Option.getD_some] at h2
      have := Array.all_eq_true_iff_forall_mem.1 h2 x (by simpa using hx)
      rw [binds_any hb] at this
      simpa using this

/-- What the drawing lists keeps the edges. -/
theorem go_valid (m : Region.Mode) (ops : Array Oper) : ∀ (n t : Nat) (listed : Array Bool) (acc : List Nat), listed.size = ops.size →
    ∃ l, Region.linearise.go m ops n t listed acc = acc.reverse ++ l ∧ ValidL (edgesAt ops) ops.size (fun x => listed.getD x false) l ∧ l.length ≤ n
  | 0, t, listed, acc, _ => ⟨[], by simp [Region.linearise.go], trivial, Nat.le_refl _⟩
  | n + 1, t, listed, acc, hs => by
    rw [go_eq]
    split
    · rename_i i hi
      have hm := List.mem_of_getElem? hi
      have hr := (List.mem_filter.1 hm).2
      obtain ⟨h1, h2, h3⟩ := ready_spec hs hr
      obtain ⟨l, e1, e2, e3⟩ := go_valid m ops n (t / ((List.range ops.size).filter (ready m ops listed)).length) (listed.setIfInBounds i true) (i :: acc) (by simp [hs])
      refine ⟨i :: l, by rw [e1]; simp, ⟨h1, h2, h3, ?_⟩, by simp; omega⟩
      have : (fun x => (listed.setIfInBounds i true).getD x false) = plus (fun x => listed.getD x false) i := by
        funext x
        rw [getD_set _ _ _ _ (by omega)]
        rfl
      rw [this] at e2
      exact e2
    · exact ⟨[], by simp, trivial, by simp⟩

theorem ValidL.nodup {edges : Nat → List Nat} {n : Nat} : ∀ {l : List Nat} {D : Nat → Bool}, ValidL edges n D l → l.Nodup ∧ (∀ x ∈ l, x < n) ∧ ∀ x ∈ l, D x = false
  | [], _, _ => ⟨List.nodup_nil, by simp, by simp⟩
  | i :: r, D, ⟨h1, h2, _, h4⟩ => by
    obtain ⟨a, b, c⟩ := ValidL.nodup h4
    refine ⟨List.nodup_cons.2 ⟨fun hm => ?_, a⟩, fun x hx => ?_, fun x hx => ?_⟩
    · have := c i hm; simp [plus] at this
    · rcases List.mem_cons.1 hx with rfl | hx
      · exact h1
      · exact b x hx
    · rcases List.mem_cons.1 hx with rfl | hx
      · exact h2
      · have := c x hx
        simp only [plus, Bool.or_eq_false_iff] at this
        exact this.2

/-- While something is not listed, something is ready (one whole list shows it). -/
theorem some_ready {m : Region.Mode} {ops : Array Oper} : ∀ (n t : Nat) (listed : Array Bool) (L : Array Bool), listed.size = ops.size → L.size = ops.size →
    (∀ x, listed.getD x false = true → L.getD x false = true) →
    (∃ x, x ∈ Region.linearise.go m ops n t listed [] ∧ L.getD x false = false) → ∃ i, i < ops.size ∧ ready m ops L i = true
  | 0, t, listed, L, _, _, _, ⟨x, hx, _⟩ => by simp [Region.linearise.go] at hx
  | n + 1, t, listed, L, hs, hL, hsub, ⟨x, hx, hxL⟩ => by
    rw [go_eq] at hx
    split at hx
    · rename_i i hi
      have hm := List.mem_of_getElem? hi
      have hr := (List.mem_filter.1 hm).2
      obtain ⟨h1, h2, h3⟩ := ready_spec hs hr
      by_cases hiL : L.getD i false = true
      · -- i is listed in L too: go on
        have hgo : ∀ (n t : Nat) (listed : Array Bool) (acc : List Nat), Region.linearise.go m ops n t listed acc = acc.reverse ++ Region.linearise.go m ops n t listed [] := by
          intro n
          induction n with
          | zero => intro t listed acc; simp [Region.linearise.go]
          | succ n ih =>
            intro t listed acc
            rw [go_eq, go_eq]
            split
            · rw [ih _ _ (_ :: acc), ih _ _ [_]]; simp
            · simp
        rw [hgo] at hx
        simp only [List.reverse_cons, List.reverse_nil, List.nil_append, List.mem_append, List.mem_singleton] at hx
        have hx' : x ∈ Region.linearise.go m ops n (t / ((List.range ops.size).filter (ready m ops listed)).length) (listed.setIfInBounds i true) [] := by
          rcases hx with rfl | hx
          · rw [hiL] at hxL; cases hxL
          · exact hx
        refine some_ready n _ (listed.setIfInBounds i true) L (by simp [hs]) hL (fun y hy => ?_) ⟨x, hx', hxL⟩
        rw [getD_set _ _ _ _ (by omega)] at hy
        simp only [Bool.or_eq_true, beq_iff_eq] at hy
        rcases hy with rfl | hy
        · exact hiL
        · exact hsub y hy
      · refine ⟨i, h1, ?_⟩
        unfold ready at hr ⊢
        simp only [Bool.and_eq_true, Bool.not_eq_true'] at hr ⊢
        refine ⟨?_, ?_⟩
        · have : L.getD i true = L.getD i false := by
            rw [Array.getD_eq_getD_getElem?, Array.getD_eq_getD_getElem?, Array.getElem?_eq_getElem (by omega)]; rfl
          rw [this]; simpa using hiL
        · cases ho : ops[i]? with
          | none => rw [ho] at hr; simp at hr
          | some o =>
            rw [ho] at hr
            simp only [Option.map_some, Option.getD_some] at hr ⊢
            refine Array.all_eq_true_iff_forall_mem.2 fun e he => ?_
            have := Array.all_eq_true_iff_forall_mem.1 hr.2 e he
            simp only [Bool.or_eq_true] at this ⊢
            rcases this with h | h
            · exact .inl h
            · exact .inr (hsub _ h)
    · simp at hx

theorem replicate_getD (n x : Nat) : (Array.replicate n false).getD x false = false := by
  rw [Array.getD_eq_getD_getElem?, Array.getElem?_replicate]
  split <;> rfl

/-- Every list that is drawn is whole, if something is always ready. -/
theorem linearise_some {m : Region.Mode} {ops : Array Oper} (h0 : ∀ listed : Array Bool, listed.size = ops.size → (∃ x, x < ops.size ∧ listed.getD x false = false) → ∃ i, i < ops.size ∧ ready m ops listed i = true) (t : Nat) :
    ValidL (edgesAt ops) ops.size (fun _ => false) (Region.linearise m ops t) ∧ ∀ i, i < ops.size → i ∈ Region.linearise m ops t := by
  have hf : (fun x => (Array.replicate ops.size false).getD x false) = fun _ => false := funext fun x => replicate_getD _ x
  have hval : ∀ t, ValidL (edgesAt ops) ops.size (fun _ => false) (Region.linearise m ops t) := fun t => by
    obtain ⟨l, e1, e2, _⟩ := go_valid m ops ops.size t (Array.replicate ops.size false) [] (by simp)
    have : Region.linearise m ops t = l := by
      show Region.linearise.go m ops ops.size t (Array.replicate ops.size false) [] = l
      rw [e1]; simp
    rw [this, ← hf]; exact e2
  refine ⟨hval t, ?_⟩
  have hlen : (Region.linearise m ops t).length = ops.size := by
    have key : ∀ (n t : Nat) (listed : Array Bool) (acc : List Nat), listed.size = ops.size → acc.length + n = ops.size → acc.Nodup → (∀ x, x ∈ acc ↔ listed.getD x false = true) →
        (Region.linearise.go m ops n t listed acc).length = ops.size := by
      intro n
      induction n with
      | zero => intro t listed acc _ hl _ _; simp [Region.linearise.go]; omega
      | succ n ih =>
        intro t listed acc hs hl hnd hacc
        obtain ⟨x, hx, hxn⟩ : ∃ x, x < ops.size ∧ x ∉ acc := by
          refine Classical.byContradiction fun hno => ?_
          have := sub_len (List.range ops.size) acc List.nodup_range fun y hy => by
            refine Classical.byContradiction fun hya => hno ⟨y, List.mem_range.1 hy, hya⟩
          rw [List.length_range] at this; omega
        obtain ⟨i, hi, hr⟩ := h0 listed hs ⟨x, hx, by
            cases h : listed.getD x false with
            | false => rfl
            | true => exact absurd ((hacc x).2 h) hxn⟩
        rw [go_eq]
        have hne : 0 < ((List.range ops.size).filter (ready m ops listed)).length := List.length_pos_of_mem (List.mem_filter.2 ⟨List.mem_range.2 hi, hr⟩)
        have hlt := Nat.mod_lt t hne
        rw [List.getElem?_eq_getElem hlt]
        dsimp only
        have hm := List.getElem_mem hlt
        have hr2 := (List.mem_filter.1 hm).2
        obtain ⟨g1, g2, _⟩ := ready_spec hs hr2
        refine ih _ _ _ (by simp [hs]) (by simp; omega) (List.nodup_cons.2 ⟨fun hm2 => ?_, hnd⟩) fun y => ?_
        · rw [(hacc _).1 hm2] at g2; cases g2
        · rw [getD_set _ _ _ _ (by omega)]
          simp only [List.mem_cons, Bool.or_eq_true, beq_iff_eq]
          rw [hacc y]
    exact key ops.size t (Array.replicate ops.size false) [] (by simp) (by simp) List.nodup_nil fun x => by rw [replicate_getD]; simp
  obtain ⟨a, b, _⟩ := (hval t).nodup
  exact all_of_nodup a b hlen

/-- .. if one is. -/
theorem linearise_all {m : Region.Mode} {ops : Array Oper} (h0 : (Region.linearise m ops 0).length = ops.size) (t : Nat) :
    ValidL (edgesAt ops) ops.size (fun _ => false) (Region.linearise m ops t) ∧ ∀ i, i < ops.size → i ∈ Region.linearise m ops t := by
  have hf : (fun x => (Array.replicate ops.size false).getD x false) = fun _ => false := funext fun x => replicate_getD _ x
  have hall0 : ∀ i, i < ops.size → i ∈ Region.linearise m ops 0 := by
    obtain ⟨l, e1, e2, _⟩ := go_valid m ops ops.size 0 (Array.replicate ops.size false) [] (by simp)
    have : Region.linearise m ops 0 = l := by
      show Region.linearise.go m ops ops.size 0 (Array.replicate ops.size false) [] = l
      rw [e1]; simp
    rw [hf, ← this] at e2
    obtain ⟨a, b, _⟩ := e2.nodup
    exact all_of_nodup a b h0
  refine linearise_some (fun listed hs ⟨x, hx, hxn⟩ => ?_) t
  exact some_ready (m := m) (ops := ops) ops.size 0 (Array.replicate ops.size false) listed (by simp) hs (fun y hy => by rw [replicate_getD] at hy; cases hy) ⟨x, hall0 x hx, hxn⟩

/-- So is every schedule. -/
theorem schedule_all {ops : Array Oper} (h1 : (Region.linearise .text ops 0).length = ops.size) (h2 : (Region.linearise .gc ops 0).length = ops.size) (h3 : (Region.linearise .any ops 0).length = ops.size) (mixed : Bool) (t : Nat) :
    ValidL (edgesAt ops) ops.size (fun _ => false) (Region.schedule mixed ops t) ∧ ∀ i, i < ops.size → i ∈ Region.schedule mixed ops t := by
  unfold Region.schedule
  split
  · exact linearise_all h3 t
  · split
    · exact linearise_all h1 _
    · exact linearise_all h2 _

/-! What stands ahead. -/

inductive Reach (edges : Nat → List Nat) : Nat → Nat → Prop
  | base {i j} (h : i ∈ edges j) : Reach edges i j
  | step {i k j} (h : k ∈ edges j) (r : Reach edges i k) : Reach edges i j

theorem Reach.closed {edges : Nat → List Nat} {D : Nat → Bool} (hD : ∀ j, D j = true → ∀ e ∈ edges j, D e = true) {i j : Nat} (h : Reach edges i j) : (∀ e ∈ edges j, D e = true) → D i = true := by
  induction h with
  | base h => exact fun hj => hj _ h
  | step h _ ih => exact fun hj => ih fun e he => hD _ (hj _ h) e he

theorem forceNat_eq {β : Type} (n : Nat) (k : Nat → β) : forceNat n k = k n := by cases n <;> rfl

theorem orN_spec {w M i : Nat} : ∀ {l : List Nat} {m : Nat}, (orN w M l m).testBit i = true → m.testBit i = true ∨ ∃ e ∈ l, i = e ∨ M.testBit (w * e + i) = true
  | [], m, h => .inl h
  | d :: r, m, h => by
    rcases orN_spec (l := r) h with h | ⟨d', hd, h⟩
    · simp only [Nat.testBit_or, Bool.or_eq_true] at h
      rcases h with (h | h) | h
      · exact .inl h
      · refine .inr ⟨d, List.mem_cons_self .., .inl ?_⟩
        rw [Nat.one_shiftLeft, Nat.testBit_two_pow] at h
        simpa using (of_decide_eq_true h).symm
      · rw [Nat.testBit_shiftRight] at h
        exact .inr ⟨d, List.mem_cons_self .., .inr h⟩
    · exact .inr ⟨d', List.mem_cons_of_mem _ hd, h⟩

theorem masksN_spec {edges : Nat → List Nat} {w : Nat} : ∀ {l : List Nat} {M : Nat}, (∀ i j, i < w → M.testBit (w * j + i) = true → Reach edges i j) → ∀ i j, i < w → (masksN edges w l M).testBit (w * j + i) = true → Reach edges i j
  | [], M, h, i, j, hi, hm => h i j hi hm
  | q :: r, M, h, i, j, hi, hm => by
    simp only [masksN, forceNat_eq] at hm
    refine masksN_spec (l := r) (fun i j hi hm => ?_) i j hi hm
    simp only [Nat.testBit_or, Bool.or_eq_true, Nat.testBit_shiftLeft, Nat.testBit_mod_two_pow, Bool.and_eq_true, decide_eq_true_eq] at hm
    rcases hm with hm | ⟨h1, h2, h3⟩
    · exact h i j hi hm
    · have hjq : j = q := by
        rcases Nat.lt_trichotomy j q with hl | hl | hl
        · have := Nat.mul_le_mul_left w (show j + 1 ≤ q by omega)
          rw [Nat.mul_add, Nat.mul_one] at this; omega
        · exact hl
        · have := Nat.mul_le_mul_left w (show q + 1 ≤ j by omega)
          rw [Nat.mul_add, Nat.mul_one] at this; omega
      subst hjq
      rw [Nat.add_sub_cancel_left] at h3
      rcases orN_spec h3 with h0 | ⟨d, hd, rfl | h1⟩
      · simp at h0
      · exact .base hd
      · exact .step hd (h i d hi h1)

theorem reachN_spec {edges : Nat → List Nat} {w : Nat} {l : List Nat} {i j : Nat} (hi : i < w) (h : reachN w (masksN edges w l 0) i j = true) : Reach edges i j :=
  masksN_spec (fun i j _ hm => by simp at hm) i j hi h

/-- Where the edges go back, every drawing is whole. -/
theorem linearise_back {m : Region.Mode} {ops : Array Oper} (hb : backOk ops = true) (t : Nat) :
    ValidL (edgesAt ops) ops.size (fun _ => false) (Region.linearise m ops t) ∧ ∀ i, i < ops.size → i ∈ Region.linearise m ops t := by
  refine linearise_some (fun listed hs hne => ?_) t
  -- the least that is not listed
  obtain ⟨x, hx, hxn⟩ := hne
  obtain ⟨i, hi, hmin⟩ : ∃ i, (i < ops.size ∧ listed.getD i false = false) ∧ ∀ j, j < i → listed.getD j false = true := by
    have : ∀ n, (∃ i, (i < ops.size ∧ listed.getD i false = false) ∧ ∀ j, j < i → listed.getD j false = true) ∨ ∀ j, j < n → j < ops.size → listed.getD j false = true := by
      intro n
      induction n with
      | zero => exact .inr fun j hj => absurd hj (Nat.not_lt_zero _)
      | succ n ih =>
        rcases ih with h | h
        · exact .inl h
        · by_cases hn : n < ops.size ∧ listed.getD n false = false
          · exact .inl ⟨n, hn, fun j hj => h j hj (by omega)⟩
          · refine .inr fun j hj hjs => ?_
            rcases Nat.lt_or_ge j n with hl | hl
            · exact h j hl hjs
            · obtain rfl : j = n := by omega
              cases hc : listed.getD j false with
              | true => rfl
              | false => exact absurd ⟨hjs, hc⟩ hn
    rcases this (x + 1) with h | h
    · exact h
    · rw [h x (Nat.lt_succ_self _) hx] at hxn; cases hxn
  refine ⟨i, hi.1, ?_⟩
  unfold ready
  simp only [Bool.and_eq_true, Bool.not_eq_true']
  refine ⟨?_, ?_⟩
  · have : listed.getD i true = listed.getD i false := by
      rw [Array.getD_eq_getD_getElem?, Array.getD_eq_getD_getElem?, Array.getElem?_eq_getElem (by omega)]; rfl
    rw [this]; exact hi.2
  · have h1 := List.all_eq_true.1 hb i (List.mem_range.2 hi.1)
    cases ho : ops[i]? with
    | none => rw [Array.getElem?_eq_getElem hi.1] at ho; cases ho
    | some o =>
      rw [ho] at h1
      simp only [Option.map_some, Option.getD_some]
      refine Array.all_eq_true_iff_forall_mem.2 fun e he => ?_
      have h2 := List.all_eq_true.1 h1 e (by simpa using he)
      have h3 : e.on < i := by simpa [Nat.blt_eq] using h2
      simp only [Bool.or_eq_true]
      exact .inr (hmin _ h3)

/-- So is every schedule. -/
theorem schedule_back {ops : Array Oper} (hb : backOk ops = true) (mixed : Bool) (t : Nat) :
    ValidL (edgesAt ops) ops.size (fun _ => false) (Region.schedule mixed ops t) ∧ ∀ i, i < ops.size → i ∈ Region.schedule mixed ops t := by
  unfold Region.schedule
  split
  · exact linearise_back hb t
  · split
    · exact linearise_back hb _
    · exact linearise_back hb _

end Go.AM
