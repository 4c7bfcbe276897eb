/- The fast evaluator: code, functions, runs. -/
import Derived.Test.YtgfohimonbagmaaGreatDoorAMFast5
namespace Go.AM.F

/-- What code comes to. -/
def Xs (d n : Nat) (o : Option (X × Env × H)) (k : ET V d → HF → R) (kx : X → ET V d → HF → R) (r : V) : Prop :=
  ∃ x e' h' t' hf', o = some (x, e', h') ∧ RE d n t' e' ∧ RH hf' h' ∧ (match x with | .normal => k t' hf' | x => kx x t' hf') = some r

theorem forget_spec {d n : Nat} : ∀ (l : List Nat) (v : V) {t : ET V d} {e : Env} (_ : RE d n t e) (k : ET V d → R), ∃ t', (forgetC d n l).s v t k = k t' ∧ RE d n t' (e.forget l)
  | [], v, t, e, he, k => ⟨t, rfl, he⟩
  | i :: l, v, t, e, he, k => by
    obtain ⟨t1, h1, h2⟩ := putC_spec he (some i) .undef (fun e => (forgetC d n l).s v e k)
    obtain ⟨t2, h3, h4⟩ := forget_spec l v h2 k
    exact ⟨t2, by
      show (putC d n (some i)).s .undef t (fun e => (forgetC d n l).s v e k) = _
      rw [h1, h3], h4⟩

theorem loop_some {T : Tab} {call : Call} {d n : Nat} {c : C} (hcc : ∀ {t : ET V d} {e : Env} {hf : HF} {h : H} {k : ET V d → HF → R} {kx : X → ET V d → HF → R} {r : V}, RE d n t e → RH hf h → (cdC d n c).f call t hf k kx = some r → ∃ N, Xs d n (exec T N c e h) k kx r) :
    ∀ m {t : ET V d} {e : Env} {hf : HF} {h : H} {k : ET V d → HF → R} {kx : X → ET V d → HF → R} {r : V}, RE d n t e → RH hf h → loopF d (cdC d n c) m call t hf k kx = some r → ∃ N, Xs d n (exec T N (.loop c) e h) k kx r
  | 0, t, e, hf, h, k, kx, r, he, hr, x => by cases x
  | m + 1, t, e, hf, h, k, kx, r, he, hr, x => by
    have x' : (cdC d n c).f call t hf (fun e h => loopF d (cdC d n c) m call e h k kx) kx = some r := x
    obtain ⟨N, y, e1, h1, t1, hf1, a1, a2, a3, a4⟩ := hcc he hr x'
    cases y with
    | normal =>
      obtain ⟨M, z, e2, h2, t2, hf2, b1, b2, b3, b4⟩ := loop_some hcc m a2 a3 a4
      refine ⟨max N M + 1, z, e2, h2, t2, hf2, ?_, b2, b3, b4⟩
      show (match exec T (max N M + 1) c e h with | some (.normal, e, h) => exec T (max N M) (.loop c) e h | r => r) = _
      rw [exec_mono T (by omega : N ≤ max N M + 1) _ _ _ _ a1]
      exact exec_mono T (Nat.le_max_right N M) _ _ _ _ b1
    | exit j =>
      refine ⟨N + 1, .exit j, e1, h1, t1, hf1, ?_, a2, a3, a4⟩
      show (match exec T (N + 1) c e h with | some (.normal, e, h) => exec T N (.loop c) e h | r => r) = _
      rw [exec_mono T (by omega : N ≤ N + 1) _ _ _ _ a1]
    | ret =>
      refine ⟨N + 1, .ret, e1, h1, t1, hf1, ?_, a2, a3, a4⟩
      show (match exec T (N + 1) c e h with | some (.normal, e, h) => exec T N (.loop c) e h | r => r) = _
      rw [exec_mono T (by omega : N ≤ N + 1) _ _ _ _ a1]

theorem cd_some {T : Tab} {call : Call} (hc : CallOK T call) {d n : Nat} : ∀ (c : C) {t : ET V d} {e : Env} {hf : HF} {h : H} {k : ET V d → HF → R} {kx : X → ET V d → HF → R} {r : V}, RE d n t e → RH hf h → (cdC d n c).f call t hf k kx = some r →
    ∃ N, Xs d n (exec T N c e h) k kx r := by
  intro c
  induction c with
  | skip => intro t e hf h k kx r he hr x; exact ⟨1, .normal, e, h, t, hf, rfl, he, hr, x⟩
  | ret => intro t e hf h k kx r he hr x; exact ⟨1, .ret, e, h, t, hf, rfl, he, hr, x⟩
  | bad => intro t e hf h k kx r he hr x; cases x
  | exit id => intro t e hf h k kx r he hr x; exact ⟨1, .exit id, e, h, t, hf, rfl, he, hr, x⟩
  | reg ops =>
    intro t e hf h k kx r he hr x
    have x' : (osC d n ops).f call t hf k = some r := x
    obtain ⟨N, e', h', t', hf', h1, h2, h3, h4⟩ := os_some hc he hr x'
    refine ⟨N + 1, .normal, e', h', t', hf', ?_, h2, h3, h4⟩
    show (match opers T (exec T N) ops e h with | some (e, h) => some (X.normal, e, h) | none => none) = _
    rw [h1]
  | regd ops =>
    intro t e hf h k kx r he hr x
    have x' : (osdC d n ops).f call [] t hf k = some r := x
    obtain ⟨N, e', h', t', hf', h1, h2, h3, h4⟩ := osd_some hc he hr x'
    refine ⟨N + 1, .normal, e', h', t', hf', ?_, h2, h3, h4⟩
    show (match opersD T (exec T N) ops [] e h with | some (e, h) => some (X.normal, e, h) | none => none) = _
    rw [h1]
  | seq a b iha ihb =>
    intro t e hf h k kx r he hr x
    have x' : (cdC d n a).f call t hf (fun e h => (cdC d n b).f call e h k kx) kx = some r := x
    obtain ⟨N, y, e1, h1, t1, hf1, a1, a2, a3, a4⟩ := iha he hr x'
    cases y with
    | normal =>
      obtain ⟨M, z, e2, h2, t2, hf2, b1, b2, b3, b4⟩ := ihb a2 a3 a4
      refine ⟨max N M + 1, z, e2, h2, t2, hf2, ?_, b2, b3, b4⟩
      show (match exec T (max N M + 1) a e h with | some (.normal, e, h) => exec T (max N M + 1) b e h | r => r) = _
      rw [exec_mono T (by omega : N ≤ max N M + 1) _ _ _ _ a1]
      exact exec_mono T (by omega : M ≤ max N M + 1) _ _ _ _ b1
    | exit j =>
      refine ⟨N + 1, .exit j, e1, h1, t1, hf1, ?_, a2, a3, a4⟩
      show (match exec T (N + 1) a e h with | some (.normal, e, h) => exec T (N + 1) b e h | r => r) = _
      rw [exec_mono T (by omega : N ≤ N + 1) _ _ _ _ a1]
    | ret =>
      refine ⟨N + 1, .ret, e1, h1, t1, hf1, ?_, a2, a3, a4⟩
      show (match exec T (N + 1) a e h with | some (.normal, e, h) => exec T (N + 1) b e h | r => r) = _
      rw [exec_mono T (by omega : N ≤ N + 1) _ _ _ _ a1]
  | cond o a b iha ihb =>
    intro t e hf h k kx r he hr x
    have x' : ((evC d n o).g t fun v => condK v ((cdC d n a).f call t hf k kx) ((cdC d n b).f call t hf k kx) : R) = some r := x
    rw [evC_spec he] at x'
    obtain ⟨u, hu, x2⟩ := condK_some x'
    cases u with
    | true =>
      obtain ⟨N, y, e1, h1, t1, hf1, a1, a2⟩ := iha he hr x2
      refine ⟨N + 1, y, e1, h1, t1, hf1, ?_, a2⟩
      show (match ev e o with | .bool true => exec T (N + 1) a e h | .bool false => exec T (N + 1) b e h | _ => none) = _
      rw [hu]
      exact exec_mono T (by omega : N ≤ N + 1) _ _ _ _ a1
    | false =>
      obtain ⟨N, y, e1, h1, t1, hf1, a1, a2⟩ := ihb he hr x2
      refine ⟨N + 1, y, e1, h1, t1, hf1, ?_, a2⟩
      show (match ev e o with | .bool true => exec T (N + 1) a e h | .bool false => exec T (N + 1) b e h | _ => none) = _
      rw [hu]
      exact exec_mono T (by omega : N ≤ N + 1) _ _ _ _ a1
  | block id c ihc =>
    intro t e hf h k kx r he hr x
    have x' : (cdC d n c).f call t hf k (fun x e h => X.rec none (fun j => condB (Nat.beq j id) (k e h) (kx (.exit j) e h)) (kx .ret e h) x) = some r := x
    obtain ⟨N, y, e1, h1, t1, hf1, a1, a2, a3, a4⟩ := ihc he hr x'
    have step : exec T (N + 1) (.block id c) e h = (match some (y, e1, h1) with | some (.exit j, e, h) => if j == id then some (.normal, e, h) else some (.exit j, e, h) | r => r) := by
      show (match exec T (N + 1) c e h with | some (.exit j, e, h) => if j == id then some (X.normal, e, h) else some (.exit j, e, h) | r => r) = _
      rw [exec_mono T (by omega : N ≤ N + 1) _ _ _ _ a1]
    cases y with
    | normal => exact ⟨N + 1, .normal, e1, h1, t1, hf1, step, a2, a3, a4⟩
    | ret => exact ⟨N + 1, .ret, e1, h1, t1, hf1, step, a2, a3, a4⟩
    | exit j =>
      have a4' : condB (Nat.beq j id) (k t1 hf1) (kx (.exit j) t1 hf1) = some r := a4
      rw [condB_eq] at a4'
      dsimp only at step
      by_cases hj : j = id
      · subst hj
        rw [if_pos (Nat.beq_refl j)] at a4'
        rw [if_pos (by simp)] at step
        exact ⟨N + 1, .normal, e1, h1, t1, hf1, step, a2, a3, a4'⟩
      · have hb : Nat.beq j id = false := by
          cases hb : Nat.beq j id with
          | false => rfl
          | true => exact absurd (Nat.eq_of_beq_eq_true hb) hj
        rw [hb] at a4'
        rw [if_neg (by simpa using hj)] at step
        exact ⟨N + 1, .exit j, e1, h1, t1, hf1, step, a2, a3, a4'⟩
  | loop c ihc =>
    intro t e hf h k kx r he hr x
    exact loop_some (fun he hr x => ihc he hr x) rounds he hr x
  | forget l c ihc =>
    intro t e hf h k kx r he hr x
    have x' : ((forgetC d n l).s .undef t fun e => (cdC d n c).f call e hf k kx : R) = some r := x
    obtain ⟨t1, h1, h2⟩ := forget_spec l .undef he (fun e => (cdC d n c).f call e hf k kx)
    rw [h1] at x'
    obtain ⟨N, y, e1, hh, t2, hf1, a1, a2⟩ := ihc h2 hr x'
    refine ⟨N + 1, y, e1, hh, t2, hf1, ?_, a2⟩
    show exec T (N + 1) c (e.forget l) h = _
    exact exec_mono T (by omega : N ≤ N + 1) _ _ _ _ a1

end Go.AM.F
