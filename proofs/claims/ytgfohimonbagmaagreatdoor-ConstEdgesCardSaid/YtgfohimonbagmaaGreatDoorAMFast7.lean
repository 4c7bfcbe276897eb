/- The fast evaluator: functions, runs. What it answers `run` answers. -/
import Derived.Test.YtgfohimonbagmaaGreatDoorAMFast6
namespace Go.AM.F

theorem res_some {d n : Nat} {t : ET V d} {e : Env} (he : RE d n t e) {hf : HF} {h : H} (hr : RH hf h) : ∀ {l : List Res} {k : List V → R} {r : V}, resC d n l t hf k = some r → ∃ vs, resV e h l = some vs ∧ k vs = some r
  | [], k, r, x => ⟨[], rfl, x⟩
  | .t i :: l, k, r, x => by
    have x' : ((evC d n (.t i)).g t fun v => resC d n l t hf fun l => k (v :: l) : R) = some r := x
    rw [evC_spec he] at x'
    obtain ⟨vs, h1, h2⟩ := res_some he hr x'
    exact ⟨_, by simp only [resV, h1]; rfl, h2⟩
  | .cell a agg m :: l, k, r, x => by
    have x' : ((evC d n (.t a)).g t fun a => loadK hf agg m a fun v => resC d n l t hf fun l => k (v :: l) : R) = some r := x
    rw [evC_spec he] at x'
    obtain ⟨v, h1, x2⟩ := loadK_some hr x'
    obtain ⟨vs, h3, h4⟩ := res_some he hr x2
    have h1' : loadV h agg m (e.get a) = some v := h1
    exact ⟨_, by simp only [resV, h1', h3], h4⟩

theorem set_mid : ∀ (pre rest : Env) (v u : V), Env.set (pre ++ u :: rest) pre.length v = pre ++ v :: rest
  | [], rest, v, u => rfl
  | x :: pre, rest, v, u => by
    show x :: Env.set (pre ++ u :: rest) pre.length v = _
    rw [set_mid pre rest v u]; rfl

theorem init_some {d n : Nat} : ∀ {args pre : List V} {t : ET V d} {k : ET V d → R} {r : V}, initC d n pre.length args t k = some r → pre.length ≤ n → RE d n t (pre ++ List.replicate (n - pre.length) .undef) →
    ∃ t', RE d n t' (pre ++ args ++ List.replicate (n - pre.length - args.length) .undef) ∧ k t' = some r
  | [], pre, t, k, r, x, _, he => ⟨t, by simpa using he, x⟩
  | v :: args, pre, t, k, r, x, hp, he => by
    have x' : condB (Nat.blt pre.length n) ((putC d n (some pre.length)).s v t fun e => initC d n (pre.length + 1) args e k) none = some r := x
    obtain ⟨h1, x2⟩ := condB_some x'
    have hlt := blt_true.1 h1
    obtain ⟨t1, h2, h3⟩ := putC_spec he (some pre.length) v (fun e => initC d n (pre.length + 1) args e k)
    rw [h2] at x2
    have e1 : n - pre.length = (n - pre.length - 1) + 1 := by omega
    have e2 : Env.set (pre ++ List.replicate (n - pre.length) V.undef) pre.length v = (pre ++ [v]) ++ List.replicate (n - (pre ++ [v]).length) .undef := by
      rw [e1, List.replicate_succ, set_mid]
      simp [Nat.sub_sub]
    have h3' : RE d n t1 ((pre ++ [v]) ++ List.replicate (n - (pre ++ [v]).length) .undef) := by
      rw [← e2]; exact h3
    obtain ⟨t2, h4, h5⟩ := init_some (pre := pre ++ [v]) (by simpa using x2) (by simp; omega) h3'
    exact ⟨t2, by simpa [Nat.sub_sub, Nat.add_comm, Nat.add_left_comm] using h4, h5⟩

/-- What is left of a call when its code has come to an end. -/
def doneX (fn : Fn) : Option (X × Env × H) → Option (V × H)
  | some (.normal, e, h) | some (.ret, e, h) => match resV e h fn.res with
    | some l => some (oneOrTup l, h)
    | none => none
  | _ => none

theorem fn_some {T : Tab} {call : Call} (hc : CallOK T call) {fn : Fn} {args : List V} {hf : HF} {h : H} {k : KC} {r : V} (hr : RH hf h) (x : (fnC fn).f call args hf k = some r) :
    ∃ N, Hs (doneX fn (exec T N fn.body (args ++ List.replicate (fn.ntmps - args.length) .undef) h)) k r := by
  unfold fnC at x
  split at x
  · rename_i hn
    have x' : initC (depth fn.ntmps) fn.ntmps 0 args (ET.all .undef (depth fn.ntmps)) (fun e => (cdC (depth fn.ntmps) fn.ntmps fn.body).f call e hf
      (fun e h => resC (depth fn.ntmps) fn.ntmps fn.res e h fun l => k (oneOrTup l) h)
      (fun x e h => X.rec none (fun _ => none) (resC (depth fn.ntmps) fn.ntmps fn.res e h fun l => k (oneOrTup l) h) x)) = some r := x
    have he : RE (depth fn.ntmps) fn.ntmps (ET.all .undef (depth fn.ntmps)) ([] ++ List.replicate (fn.ntmps - ([] : List V).length) .undef) := by
      refine ⟨?_, by simp, fun i hi => ?_⟩
      · unfold depth
        split
        · omega
        · split
          · omega
          · split <;> omega
      · rw [at_all]
        have : ∀ (m i : Nat), V.undef = Env.get (List.replicate m .undef) i := by
          intro m
          induction m with
          | zero => intro i; rfl
          | succ m ih => intro i; cases i with
            | zero => rfl
            | succ i => exact ih i
        exact this _ i
    obtain ⟨t1, h1, x2⟩ := init_some (pre := []) x' (Nat.zero_le _) he
    simp only [List.nil_append, List.length_nil, Nat.sub_zero] at h1
    obtain ⟨N, y, e1, hh, t2, hf1, a1, a2, a3, a4⟩ := cd_some hc fn.body h1 hr x2
    refine ⟨N, ?_⟩
    rw [a1]
    cases y with
    | normal =>
      obtain ⟨vs, h2, h3⟩ := res_some a2 a3 a4
      exact ⟨_, _, hf1, by simp only [doneX, h2], a3, h3⟩
    | ret =>
      obtain ⟨vs, h2, h3⟩ := res_some a2 a3 a4
      exact ⟨_, _, hf1, by simp only [doneX, h2], a3, h3⟩
    | exit j => cases a4
  · cases x

theorem fnE_some {T : Tab} {call : Call} (hc : CallOK T call) {f : FuncId} {args : List V} {hf : HF} {h : H} {k : KC} {r : V} (hr : RH hf h) (x : (fnE (T.F f)).f call args hf k = some r) : ∃ N, Hs (enterF (T.F f) (exec T N) args h) k r := by
  unfold fnE at x
  cases hF : T.F f with
  | none => rw [hF] at x; cases x
  | some fn =>
    rw [hF] at x
    obtain ⟨N, v, h', hf', h1, h2, h3⟩ := fn_some hc hr x
    refine ⟨N, v, h', hf', ?_, h2, h3⟩
    simp only [enterF]
    rw [← h1]
    rfl

theorem callN_ok (T : Tab) : ∀ n, CallOK T (callN T n)
  | 0 => fun f args hf h k r _ x => by cases x
  | n + 1 => fun f args hf h k r hr x => by
    have x' : (fnT T f).f (callN T n) args hf k = some r := x
    unfold fnT at x'
    cases hK : T.K f with
    | some F =>
      rw [hK] at x'
      have x2 : condB (allData args) (ofOptA (F args) fun v => k v hf) none = some r := x'
      obtain ⟨h1, x3⟩ := condB_some x2
      obtain ⟨v, h2, x4⟩ := ofOptA_some x3
      exact ⟨0, v, h, hf, by simp only [callF, hK, h1, if_true, h2], hr, x4⟩
    | none =>
      rw [hK] at x'
      cases hJ : T.J f with
      | none =>
        rw [hJ] at x'
        obtain ⟨N, v, h', hf', h1, h2, h3⟩ := fnE_some (callN_ok T n) hr x'
        exact ⟨N, v, h', hf', by simp only [callF, hK, short, hJ]; exact h1, h2, h3⟩
      | some F =>
        rw [hJ] at x'
        have x2 : condB (allData args) (elseK (F args) (fun v => forceA v fun v => k v hf) ((fnE (T.F f)).f (callN T n) args hf k)) ((fnE (T.F f)).f (callN T n) args hf k) = some r := x'
        rw [condB_eq] at x2
        have go : (allData args = false ∨ F args = none) → (fnE (T.F f)).f (callN T n) args hf k = some r → ∃ N, Hs (callF T (exec T N) f args h) k r := by
          intro hn x3
          obtain ⟨N, v, h', hf', h1, h2, h3⟩ := fnE_some (callN_ok T n) hr x3
          refine ⟨N, v, h', hf', ?_, h2, h3⟩
          simp only [callF, hK, short, hJ]
          rcases hn with hn | hn
          · simp only [hn, Bool.false_eq_true, if_false]; exact h1
          · simp only [hn, ite_self]; exact h1
        cases hd : allData args with
        | false =>
          rw [hd] at x2
          exact go (.inl hd) x2
        | true =>
          rw [hd] at x2
          cases hv : F args with
          | none =>
            rw [hv] at x2
            exact go (.inr hv) x2
          | some v =>
            rw [hv] at x2
            have x3 : forceA v (fun v => k v hf) = some r := x2
            rw [forceA_eq] at x3
            exact ⟨0, v, h, hf, by simp only [callF, hK, short, hJ, hd, if_true, hv], hr, x3⟩

theorem freeze_some {hf : HF} {h : H} (hr : RH hf h) : ∀ m, (∀ {v : V} {k : V → R} {r : V}, freezeK hf m v k = some r → ∃ y, freeze h m v = some y ∧ k y = some r) ∧
    (∀ {l : List V} {k : List V → R} {r : V}, freezeK.fzL (freezeK hf m) l k = some r → ∃ y, freezeL (freeze h m) l = some y ∧ k y = some r) := by
  intro m
  have lst : ∀ m, (∀ {v : V} {k : V → R} {r : V}, freezeK hf m v k = some r → ∃ y, freeze h m v = some y ∧ k y = some r) → ∀ {l : List V} {k : List V → R} {r : V}, freezeK.fzL (freezeK hf m) l k = some r → ∃ y, freezeL (freeze h m) l = some y ∧ k y = some r := by
    intro m hm l
    induction l with
    | nil => intro k r x; exact ⟨[], rfl, x⟩
    | cons v l ih =>
      intro k r x
      obtain ⟨y, h1, x2⟩ := hm (k := fun x => freezeK.fzL (freezeK hf m) l fun r => k (x :: r)) x
      obtain ⟨ys, h2, x3⟩ := ih x2
      exact ⟨_, by simp only [freezeL, h1, h2], x3⟩
  induction m with
  | zero => exact ⟨fun x => (by cases x), lst 0 fun x => (by cases x)⟩
  | succ m ih =>
    have one : ∀ {v : V} {k : V → R} {r : V}, freezeK hf (m + 1) v k = some r → ∃ y, freeze h (m + 1) v = some y ∧ k y = some r := by
      intro v k r x
      simp only [freezeK] at x
      split at x
      · obtain ⟨q, h1, _, x2⟩ := row_some hr x
        split at x2
        · rename_i hq
          obtain ⟨h2, x3⟩ := condB_some x2
          rw [forceL_eq] at x3
          exact ⟨_, by simp only [freeze, h1, hq, h2, if_true], x3⟩
        · rename_i hq
          obtain ⟨h2, x3⟩ := condB_some x2
          obtain ⟨y, h3, x4⟩ := ih.2 x3
          exact ⟨_, by simp only [freeze, h1, hq, h2, if_true, h3], x4⟩
      · obtain ⟨y, h3, x4⟩ := ih.2 x
        exact ⟨_, by simp only [freeze, h3], x4⟩
      · obtain ⟨y, h3, x4⟩ := ih.2 x
        exact ⟨_, by simp only [freeze, h3], x4⟩
      · rename_i n1 n2 n3
        obtain ⟨h1, x2⟩ := condB_some x
        refine ⟨v, ?_, x2⟩
        cases v
        case sl => exact (n1 _ _ _ _ _ rfl).elim
        case agg => exact (n2 _ rfl).elim
        case tup => exact (n3 _ rfl).elim
        all_goals (simp only [freeze]; rw [if_pos h1])
    exact ⟨one, lst (m + 1) one⟩

/-- WHAT THE FAST EVALUATOR ANSWERS, THE ABSTRACT MACHINE ANSWERS. -/
theorem runK_some {T : Tab} {n : Nat} {fn : Fn} {args : List V} {r : V} (x : runK T n fn args = some r) : ∃ N, run T N fn args = some r := by
  unfold runK at x
  obtain ⟨N, v, h', hf', h1, h2, x2⟩ := fn_some (callN_ok T n) RH.empty x
  obtain ⟨y, h3, x3⟩ := (freeze_some h2 9).1 x2
  obtain rfl := Option.some.inj x3
  refine ⟨N, ?_⟩
  unfold run
  unfold doneX at h1
  split at h1
  · rename_i e2 h2' hx
    rw [hx]
    dsimp only
    split at h1
    · rename_i l hl
      obtain ⟨rfl, rfl⟩ := Prod.mk.inj (Option.some.inj h1)
      rw [hl]; exact h3
    · cases h1
  · rename_i e2 h2' hx
    rw [hx]
    dsimp only
    split at h1
    · rename_i l hl
      obtain ⟨rfl, rfl⟩ := Prod.mk.inj (Option.some.inj h1)
      rw [hl]; exact h3
    · cases h1
  · cases h1

end Go.AM.F
