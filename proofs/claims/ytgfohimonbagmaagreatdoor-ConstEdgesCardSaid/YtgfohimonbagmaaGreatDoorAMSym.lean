/- Rules for runs of the abstract machine by hand. -/
import Derived.Test.YtgfohimonbagmaaGreatDoorAMExt
namespace Go.AM

/-- A piece of code comes to something. -/
def Wp (T : Tab) (c : C) (e : Env) (h : H) (Q : X → Env → H → Prop) : Prop := ∃ n x e' h', exec T n c e h = some (x, e', h') ∧ Q x e' h'
def Wo (T : Tab) (l : List Op) (e : Env) (h : H) (Q : Env → H → Prop) : Prop := ∃ n e' h', opers T (exec T n) l e h = some (e', h') ∧ Q e' h'
def Wd (T : Tab) (l : List OpD) (s : Seen) (e : Env) (h : H) (Q : Env → H → Prop) : Prop := ∃ n e' h', opersD T (exec T n) l s e h = some (e', h') ∧ Q e' h'
def Cl (T : Tab) (f : FuncId) (args : List V) (h : H) (Q : V → H → Prop) : Prop := ∃ n v h', callF T (exec T n) f args h = some (v, h') ∧ Q v h'

def I.plain : I → Bool
  | .call .. | .callv .. => false
  | _ => true

/-- What follows, of an operation's answer. -/
def obind (o : Option (V × H)) (k : V → H → Prop) : Prop :=
  match o with
  | some (v, h) => k v h
  | none => False
def abind (o : Option Bool) (p q : Prop) : Prop :=
  match o with
  | some true => p
  | some false => q
  | none => False

/-- How a list of operations goes. -/
def goes (T : Tab) : List Op → Env → H → (Env → H → Prop) → Prop
  | [], e, h, Q => Q e h
  | ⟨d, .call f args, g⟩ :: l, e, h, Q => abind (asked e g) (Cl T f (evs e args) h fun v h1 => goes T l (e.put d v) h1 Q) (goes T l (e.put d (.tup [])) h Q)
  | ⟨d, i, g⟩ :: l, e, h, Q => abind (asked e g) (obind (iop e h i) fun v h1 => goes T l (e.put d v) h1 Q) (goes T l (e.put d (.tup [])) h Q)

section
variable {T : Tab} {e : Env} {h : H} {a b c : C} {Q : X → Env → H → Prop}

theorem Wp.mono {Q' : X → Env → H → Prop} (p : Wp T c e h Q) (q : ∀ x e h, Q x e h → Q' x e h) : Wp T c e h Q' := by
  obtain ⟨n, x, e', h', h1, h2⟩ := p
  exact ⟨n, x, e', h', h1, q _ _ _ h2⟩

theorem goes_ok : ∀ {l : List Op} {e : Env} {h : H} {Q : Env → H → Prop}, goes T l e h Q → Wo T l e h Q
  | [], e, h, Q, p => ⟨0, e, h, rfl, p⟩
  | ⟨d, i, g⟩ :: l, e, h, Q, p => by
    have key : (∃ (v : V) (h1 : H), asked e g = some true ∧ (∃ n, oper T (exec T n) e h i = some (v, h1)) ∧ goes T l (e.put d v) h1 Q) ∨ (asked e g = some false ∧ goes T l (e.put d (.tup [])) h Q) := by
      cases i
      case call f args =>
        simp only [goes] at p
        cases ha : asked e g with
        | none => rw [ha] at p; exact p.elim
        | some t =>
          rw [ha] at p
          cases t with
          | false => exact .inr ⟨rfl, p⟩
          | true =>
            obtain ⟨n, v, h1, h2, h3⟩ := p
            exact .inl ⟨v, h1, rfl, ⟨n, h2⟩, h3⟩
      all_goals
        simp only [goes] at p
        cases ha : asked e g with
        | none => rw [ha] at p; exact p.elim
        | some t =>
          rw [ha] at p
          cases t with
          | false => exact .inr ⟨rfl, p⟩
          | true =>
            simp only [abind, obind] at p
            split at p
            · rename_i v h1 hi
              first
                | exact .inl ⟨v, h1, rfl, ⟨0, hi⟩, p⟩
                | (simp [iop] at hi; done)
            · exact p.elim
    rcases key with ⟨v, h1, ha, ⟨n, hn⟩, p⟩ | ⟨ha, p⟩
    · obtain ⟨m, e', h', h2, h3⟩ := goes_ok p
      refine ⟨max n m, e', h', ?_, h3⟩
      have h4 := oper_mono (exec_mono T (show n ≤ max n m by omega)) hn
      have h5 := opers_mono (exec_mono T (show m ≤ max n m by omega)) h2
      simp only [opers, ha, h4, h5]
    · obtain ⟨m, e', h', h2, h3⟩ := goes_ok p
      refine ⟨m, e', h', ?_, h3⟩
      simp only [opers, ha, h2]

theorem Wp.reg {l : List Op} (p : goes T l e h (Q .normal)) : Wp T (.reg l) e h Q := by
  obtain ⟨n, e', h', h1, h2⟩ := goes_ok p
  refine ⟨n + 1, .normal, e', h', ?_, h2⟩
  show exec.go T n (exec T n) (.reg l) e h = _
  simp only [exec.go, h1]
/-- A region that draws, none of whose loads is watched. -/
theorem opersD_plain {ih : Exec} : ∀ {l : List OpD} {s : Seen} {e : Env} {h : H}, (l.all fun o => o.watch.isEmpty) = true → opersD T ih l s e h = opers T ih (l.map (·.op)) e h
  | [], _, _, _, _ => rfl
  | o :: l, s, e, h, hw => by
    simp only [List.all_cons, Bool.and_eq_true] at hw
    have hfine : ∀ h' : H, ∀ s : Seen, Seen.fine h' o.watch s = true := by
      intro h' s
      have h0 : o.watch = [] := by simpa using hw.1
      rw [h0]
      induction s with
      | nil => rfl
      | cons q s ih => obtain ⟨i, a, v⟩ := q; simp [Seen.fine, ih]
    simp only [opersD, opers, List.map_cons, hfine, if_true]
    split
    · split
      · exact opersD_plain hw.2
      · rfl
    · exact opersD_plain hw.2
    · rfl
theorem Wp.regd {l : List OpD} (hw : (l.all fun o => o.watch.isEmpty) = true) (p : goes T (l.map (·.op)) e h (Q .normal)) : Wp T (.regd l) e h Q := by
  obtain ⟨n, e', h', h1, h2⟩ := goes_ok p
  refine ⟨n + 1, .normal, e', h', ?_, h2⟩
  show exec.go T n (exec T n) (.regd l) e h = _
  simp only [exec.go, opersD_plain hw, h1]
theorem Wp.skip (p : Q .normal e h) : Wp T .skip e h Q := ⟨1, _, _, _, rfl, p⟩
theorem Wp.ret (p : Q .ret e h) : Wp T .ret e h Q := ⟨1, _, _, _, rfl, p⟩
theorem Wp.exit {i : Nat} (p : Q (.exit i) e h) : Wp T (.exit i) e h Q := ⟨1, _, _, _, rfl, p⟩
def X.then_ (x : X) (p q : Prop) : Prop :=
  match x with
  | .normal => p
  | _ => q
theorem Wp.seq (p : Wp T a e h fun x e1 h1 => x.then_ (Wp T b e1 h1 Q) (Q x e1 h1)) : Wp T (.seq a b) e h Q := by
  obtain ⟨n, x, e1, h1, hn, q⟩ := p
  cases x with
  | normal =>
    obtain ⟨m, x, e2, h2, hm, q⟩ := q
    refine ⟨max n m + 1, x, e2, h2, ?_, q⟩
    have h3 := exec_mono T (show n ≤ max n m + 1 by omega) _ _ _ _ hn
    have h4 := exec_mono T (show m ≤ max n m + 1 by omega) _ _ _ _ hm
    show exec.go T (max n m) (exec T (max n m)) (.seq a b) e h = _
    have h3' : exec.go T (max n m) (exec T (max n m)) a e h = some (.normal, e1, _) := h3
    simp only [exec.go, h3']
    exact h4
  | _ =>
    refine ⟨n + 1, _, e1, h1, ?_, q⟩
    have h3 := exec_mono T (Nat.le_succ n) _ _ _ _ hn
    have h3' : exec.go T n (exec T n) a e h = some (_, e1, _) := h3
    show exec.go T n (exec T n) (.seq a b) e h = _
    simp only [exec.go, h3']
theorem Wp.cond {o : O} {t : Bool} (ho : ev e o = .bool t) (p : if t then Wp T a e h Q else Wp T b e h Q) : Wp T (.cond o a b) e h Q := by
  cases t with
  | true =>
    obtain ⟨n, x, e1, h1, hn, q⟩ := (if_pos rfl).mp p
    refine ⟨n + 1, x, e1, h1, ?_, q⟩
    have h3 := exec_mono T (Nat.le_succ n) _ _ _ _ hn
    have h3' : exec.go T n (exec T n) a e h = some (x, e1, _) := h3
    show exec.go T n (exec T n) (.cond o a b) e h = _
    simp only [exec.go, ho, h3']
  | false =>
    obtain ⟨n, x, e1, h1, hn, q⟩ := (if_neg (by simp)).mp p
    refine ⟨n + 1, x, e1, h1, ?_, q⟩
    have h3 := exec_mono T (Nat.le_succ n) _ _ _ _ hn
    have h3' : exec.go T n (exec T n) b e h = some (x, e1, _) := h3
    show exec.go T n (exec T n) (.cond o a b) e h = _
    simp only [exec.go, ho, h3']
theorem Wp.yes {o : O} (ho : ev e o = .bool true) (p : Wp T a e h Q) : Wp T (.cond o a b) e h Q := Wp.cond ho (by rw [if_pos rfl]; exact p)
theorem Wp.no {o : O} (ho : ev e o = .bool false) (p : Wp T b e h Q) : Wp T (.cond o a b) e h Q := Wp.cond ho (by rw [if_neg (by simp)]; exact p)
def unblock (i : Nat) : X → X
  | .exit j => if j = i then .normal else .exit j
  | x => x
theorem Wp.block {i : Nat} (p : Wp T c e h fun x e1 h1 => Q (unblock i x) e1 h1) : Wp T (.block i c) e h Q := by
  obtain ⟨n, x, e1, h1, hn, q⟩ := p
  refine ⟨n + 1, _, e1, h1, ?_, q⟩
  have h3 := exec_mono T (Nat.le_succ n) _ _ _ _ hn
  have h3' : exec.go T n (exec T n) c e h = some (x, e1, _) := h3
  show exec.go T n (exec T n) (.block i c) e h = _
  simp only [exec.go, h3']
  cases x <;> simp only [unblock]
  rename_i j
  by_cases hj : j = i
  · simp [hj]
  · have : (j == i) = false := by simpa using hj
    simp [hj, this]
theorem Wp.loop (p : Wp T c e h fun x e1 h1 => x.then_ (Wp T (.loop c) e1 h1 Q) (Q x e1 h1)) : Wp T (.loop c) e h Q := by
  obtain ⟨n, x, e1, h1, hn, q⟩ := p
  cases x with
  | normal =>
    obtain ⟨m, x, e2, h2, hm, q⟩ := q
    refine ⟨max n m + 1, x, e2, h2, ?_, q⟩
    have h3 := exec_mono T (show n ≤ max n m + 1 by omega) _ _ _ _ hn
    have h4 := exec_mono T (show m ≤ max n m by omega) _ _ _ _ hm
    have h3' : exec.go T (max n m) (exec T (max n m)) c e h = some (.normal, e1, _) := h3
    show exec.go T (max n m) (exec T (max n m)) (.loop c) e h = _
    simp only [exec.go, h3']
    exact h4
  | _ =>
    refine ⟨n + 1, _, e1, h1, ?_, q⟩
    have h3 := exec_mono T (Nat.le_succ n) _ _ _ _ hn
    have h3' : exec.go T n (exec T n) c e h = some (_, e1, _) := h3
    show exec.go T n (exec T n) (.loop c) e h = _
    simp only [exec.go, h3']
theorem Wp.forget {l : List Nat} (p : Wp T c (e.forget l) h Q) : Wp T (.forget l c) e h Q := by
  obtain ⟨n, x, e1, h1, hn, q⟩ := p
  refine ⟨n + 1, x, e1, h1, ?_, q⟩
  have h3 := exec_mono T (Nat.le_succ n) _ _ _ _ hn
  have h3' : exec.go T n (exec T n) c (e.forget l) h = some (x, e1, _) := h3
  show exec.go T n (exec T n) (.forget l c) e h = _
  simp only [exec.go, h3']

/-- What a function's results are. -/
def fin (fn : Fn) (Q : V → H → Prop) (x : X) (e : Env) (h : H) : Prop :=
  (x = .normal ∨ x = .ret) ∧ ∃ l, resV e h fn.res = some l ∧ Q (oneOrTup l) h

/-- A call that enters. -/
theorem Cl.enter {f : FuncId} {fn : Fn} {args : List V} {R : V → H → Prop} (hK : T.K f = none) (hJ : T.J f = none) (hF : T.F f = some fn) (p : Wp T fn.body (args ++ List.replicate (fn.ntmps - args.length) .undef) h (fin fn R)) : Cl T f args h R := by
  obtain ⟨n, x, e1, h1, hn, hx, l, hl, q⟩ := p
  refine ⟨n, _, h1, ?_, q⟩
  rcases hx with rfl | rfl <;> simp only [callF, hK, short, hJ, enterF, hF, hn, hl]

theorem Cl.mono {f : FuncId} {args : List V} {R R' : V → H → Prop} (p : Cl T f args h R) (q : ∀ v h, R v h → R' v h) : Cl T f args h R' := by
  obtain ⟨n, v, h1, h2, h3⟩ := p
  exact ⟨n, v, h1, h2, q _ _ h3⟩

/-- A run. -/
theorem run_of_wp {fn : Fn} {args : List V} {r : V} (p : Wp T fn.body (args ++ List.replicate (fn.ntmps - args.length) .undef) .empty (fin fn fun v h => freeze h 9 v = some r)) : ∃ n, run T n fn args = some r := by
  obtain ⟨n, x, e1, h1, hn, hx, l, hl, q⟩ := p
  refine ⟨n, ?_⟩
  rcases hx with rfl | rfl <;> simp only [run, hn, hl, q]
end
end Go.AM
