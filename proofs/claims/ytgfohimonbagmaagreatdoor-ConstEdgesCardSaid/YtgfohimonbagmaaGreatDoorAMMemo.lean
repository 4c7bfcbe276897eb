/- Tables of closed runs: what a function answers to data that are written down. -/
import Derived.Test.YtgfohimonbagmaaGreatDoorAMExt
namespace Go.AM

def ieq : List Int → List Int → Bool
  | [], [] => true
  | a :: r, b :: s => Bool.and (decide (a = b)) (ieq r s)
  | _, _ => false
def neq_ : List Nat → List Nat → Bool
  | [], [] => true
  | a :: r, b :: s => Bool.and (Nat.beq a b) (neq_ r s)
  | _, _ => false
def oeq : Option Nat → Option Nat → Bool
  | none, none => true
  | some a, some b => Nat.beq a b
  | _, _ => false

/-- Are they written alike? -/
def veq : V → V → Bool
  | .bool a, .bool b => a == b
  | .int k a, .int k' b => Bool.and (decide (a = b)) (k == k')
  | .flt k a, .flt k' b => Bool.and (Nat.beq a b) (decide (k = k'))
  | .str a, .str b => neq_ a b
  | .nilp, .nilp => true
  | .nilf, .nilf => true
  | .nilmap, .nilmap => true
  | .ints k n zs c, .ints k' n' zs' c' => Bool.and (k == k') (Bool.and (n == n') (Bool.and (ieq zs zs') (oeq c c')))
  | .lst s n l xs c, .lst s' n' l' xs' c' => Bool.and (Nat.beq s s') (Bool.and (n == n') (Bool.and (Nat.beq l l') (Bool.and (oeq c c') (go xs xs'))))
  | .agg xs, .agg ys => go xs ys
  | .tup xs, .tup ys => go xs ys
  | _, _ => false
 where go : List V → List V → Bool
  | [], [] => true
  | x :: r, y :: s => Bool.and (veq x y) (go r s)
  | _, _ => false

theorem ieq_eq : ∀ {a b : List Int}, ieq a b = true → a = b
  | [], [], _ => rfl
  | x :: r, y :: s, h => by
    simp only [ieq, Bool.and_eq_true, decide_eq_true_eq] at h
    rw [h.1, ieq_eq h.2]
  | [], _ :: _, h => by simp [ieq] at h
  | _ :: _, [], h => by simp [ieq] at h
theorem neq_eq : ∀ {a b : List Nat}, neq_ a b = true → a = b
  | [], [], _ => rfl
  | x :: r, y :: s, h => by
    simp only [neq_, Bool.and_eq_true] at h
    rw [Nat.eq_of_beq_eq_true h.1, neq_eq h.2]
  | [], _ :: _, h => by simp [neq_] at h
  | _ :: _, [], h => by simp [neq_] at h
theorem oeq_eq {a b : Option Nat} (h : oeq a b = true) : a = b := by
  cases a <;> cases b <;> simp only [oeq] at h
  · rfl
  · cases h
  · cases h
  · rw [Nat.eq_of_beq_eq_true h]

 mutual
theorem veq_eq : ∀ {a b : V}, veq a b = true → a = b
  | .bool a, b, h => by cases b <;> simp [veq] at h; rw [h]
  | .int k a, b, h => by
    cases b <;> simp [veq] at h
    rw [h.1, h.2]
  | .flt k a, b, h => by
    cases b <;> simp [veq] at h
    rw [h.1, h.2]
  | .str a, b, h => by
    cases b <;> simp only [veq, Bool.false_eq_true] at h
    rw [neq_eq h]
  | .nilp, b, h => by cases b <;> simp [veq] at h; rfl
  | .nilf, b, h => by cases b <;> simp [veq] at h; rfl
  | .nilmap, b, h => by cases b <;> simp [veq] at h; rfl
  | .ints k n zs c, b, h => by
    cases b <;> simp only [veq, Bool.false_eq_true, Bool.and_eq_true, beq_iff_eq] at h
    rw [h.1, h.2.1, ieq_eq h.2.2.1, oeq_eq h.2.2.2]
  | .lst s n l xs c, b, h => by
    cases b <;> simp only [veq, Bool.false_eq_true, Bool.and_eq_true, beq_iff_eq] at h
    rw [Nat.eq_of_beq_eq_true h.1, h.2.1, Nat.eq_of_beq_eq_true h.2.2.1, oeq_eq h.2.2.2.1, veqL_eq h.2.2.2.2]
  | .agg xs, b, h => by
    cases b <;> simp only [veq, Bool.false_eq_true] at h
    rw [veqL_eq h]
  | .tup xs, b, h => by
    cases b <;> simp only [veq, Bool.false_eq_true] at h
    rw [veqL_eq h]
  | .undef, b, h => by cases b <;> simp [veq] at h
  | .ptr .., b, h => by cases b <;> simp [veq] at h
  | .pint .., b, h => by cases b <;> simp [veq] at h
  | .plst .., b, h => by cases b <;> simp [veq] at h
  | .sl .., b, h => by cases b <;> simp [veq] at h
  | .func .., b, h => by cases b <;> simp [veq] at h
  | .map _, b, h => by cases b <;> simp [veq] at h
theorem veqL_eq : ∀ {a b : List V}, veq.go a b = true → a = b
  | [], [], _ => rfl
  | x :: r, y :: s, h => by
    simp only [veq.go, Bool.and_eq_true] at h
    rw [veq_eq h.1, veqL_eq h.2]
  | [], _ :: _, h => by simp [veq.go] at h
  | _ :: _, [], h => by simp [veq.go] at h
end

/-- What a table answers. -/
def memo : List (List V × V) → List V → Option V
  | [], _ => none
  | p :: r, ds => match veq.go p.1 ds with
    | true => some p.2
    | false => memo r ds

theorem memo_mem : ∀ {l : List (List V × V)} {ds : List V} {r : V}, memo l ds = some r → (ds, r) ∈ l
  | p :: l, ds, r, h => by
    simp only [memo] at h
    split at h
    · rename_i e
      obtain rfl := Option.some.inj h
      rw [← veqL_eq e]
      exact List.mem_cons_self ..
    · exact List.mem_cons_of_mem _ (memo_mem h)

/-- Are the table's answers those of the function's runs? -/
noncomputable def chk (P : Program) (K J : FuncId → Option (List V → Option V)) (n : Nat) (f : FuncId) : List (List V × V) → Bool
  | [] => true
  | p :: r => match runC P K J n f p.1 with
    | some v => match veq v p.2 with
      | true => chk P K J n f r
      | false => false
    | none => false

theorem chk_mem {P : Program} {K J : FuncId → Option (List V → Option V)} {n : Nat} {f : FuncId} : ∀ {l : List (List V × V)}, chk P K J n f l = true → ∀ p ∈ l, runC P K J n f p.1 = some p.2
  | q :: l, h, p, hp => by
    simp only [chk] at h
    split at h
    · rename_i v hv
      split at h
      · rename_i e
        rcases List.mem_cons.1 hp with rfl | hp
        · rw [hv, veq_eq e]
        · exact chk_mem h p hp
      · cases h
    · cases h

theorem pure_memo {P : Program} {K J : FuncId → Option (List V → Option V)} (h : ∀ f Φ, K f = some Φ → PureC P f Φ) (hj : ∀ f Φ, J f = some Φ → PureC P f Φ) {n : Nat} {f : FuncId} {l : List (List V × V)}
    (hc : ∀ p ∈ l, runC P K J n f p.1 = some p.2) : PureC P f (memo l) :=
  pure_runC h hj fun ds r hd => runC_some (hc _ (memo_mem hd))

theorem all_append {l l' : List (List V × V)} {p : List V × V → Prop} (h : ∀ x ∈ l, p x) (h' : ∀ x ∈ l', p x) : ∀ x ∈ l ++ l', p x := fun x hx => by
  rcases List.mem_append.1 hx with hx | hx
  · exact h x hx
  · exact h' x hx

end Go.AM
