/- A region that draws its order: every order comes to what the abstract machine's own order comes to. -/
import Derived.Test.YtgfohimonbagmaaGreatDoorAMDraw2
namespace Go.AM
open Go.RowKit (Below)

/-- The order, by place. -/
structure Plan (K : FuncId → Option (List V → Option V)) (P : Program) (ops : Array Oper) (num : Nat → Nat) : Prop where
  lt : ∀ p, p < ops.size → num p < ops.size
  inj : ∀ p q, p < ops.size → q < ops.size → num p = num q → p = q
  sur : ∀ i, i < ops.size → ∃ p, p < ops.size ∧ num p = i
  pair : ∀ p q, p < q → q < ops.size → Reach (edgesAt ops) (num p) (num q) ∨
    (disj (opAt P ops (num p)).dst (opAt P ops (num q)).names = true ∧ disj (opAt P ops (num q)).dst (opAt P ops (num p)).names = true ∧ (opAt P ops (num p)).i.isE K = false)

structure Run (P : Program) (T : Tab) (ih : Exec) (ops : Array Oper) (num : Nat → Nat) (tr : Tr) : Prop where
  step : ∀ p, p < ops.size → StepAt T ih tr p ⟨0, opAt P ops (num p), []⟩
  read : ∀ p q, p < q → q < ops.size → tr.On p = true → tr.On q = true → (opAt P ops (num q)).i.isE T.K = true → (opAt P ops (num p)).i.isL = true → ¬ Reach (edgesAt ops) (num p) (num q) →
    ∀ a, (opAt P ops (num p)).i.reads (tr.E p) = some a → FineX a (verOf (tr.Hh p) a) (tr.Hh (q + 1))

theorem plan_of {K : FuncId → Option (List V → Option V)} {P : Program} {ops : Array Oper} {ord : List Nat} (h : OrdOK K P ops ord) : Plan K P ops (fun p => ord.getD p 0) := by
  have key : ∀ p (hp : p < ops.size), ord.getD p 0 = ord[p]'(by rw [h.len]; exact hp) := fun p hp => by
    rw [List.getD, List.getElem?_eq_getElem (by rw [h.len]; exact hp)]; rfl
  refine ⟨fun p hp => ?_, fun p q hp hq e => ?_, fun i hi => ?_, fun p q hpq hq => ?_⟩
  · rw [key p hp]; exact h.lt _ (List.getElem_mem ..)
  · rw [key p hp, key q hq] at e; exact nodup_inj h.nodup _ _ e
  · obtain ⟨p, hp, rfl⟩ := List.getElem_of_mem (h.mem i hi)
    rw [h.len] at hp
    exact ⟨p, hp, key p hp⟩
  · have hp : p < ops.size := by omega
    rw [key p hp, key q hq]
    rcases h.pair p q (by rw [h.len]; exact hp) (by rw [h.len]; exact hq) hpq with e | e
    · exact .inl e
    · exact .inr e

theorem run_of {P : Program} {T : Tab} {ih : Exec} {ops : Array Oper} {ord : List Nat} (hok : OrdOK T.K P ops ord) {e e' : Env} {h h' : H} (hr : opersD T ih (mkD T.K P ops ord) [] e h = some (e', h')) :
    ∃ tr : Tr, tr.E 0 = e ∧ tr.Hh 0 = h ∧ tr.E ops.size = e' ∧ tr.Hh ops.size = h' ∧ Run P T ih ops (fun p => ord.getD p 0) tr := by
  obtain ⟨tr, a1, a2, a3, a4, a5, a6⟩ := trace_of hr
  have hl : (mkD T.K P ops ord).length = ops.size := by simp [mkD, hok.len]
  have key : ∀ p (hp : p < ops.size), ord.getD p 0 = ord[p]'(by rw [hok.len]; exact hp) := fun p hp => by
    rw [List.getD, List.getElem?_eq_getElem (by rw [hok.len]; exact hp)]; rfl
  have at_ : ∀ p (hp : p < ops.size), (mkD T.K P ops ord)[p]'(by rw [hl]; exact hp) = ⟨ord.getD p 0, opAt P ops (ord.getD p 0), watchOf (reachN ops.size (masksN (edgesAt ops) ops.size ord 0)) (fun j => (opAt P ops j).i.isE T.K) (fun j => (opAt P ops j).i.isL) ord (ord.getD p 0)⟩ := fun p hp => by
    rw [key p hp]; simp [mkD]
  rw [hl] at a3 a4
  refine ⟨tr, a1, a2, a3, a4, ⟨fun p hp => ?_, fun p q hpq hq hon hon2 hE hL hno a ha => ?_⟩⟩
  · have := a5 p (by rw [hl]; exact hp)
    rw [at_ p hp] at this
    exact ⟨this.asked, this.on, this.off, this.env⟩
  · obtain ⟨_, b2⟩ := a6 q (by rw [hl]; exact hq) hon2
    have hp : p < ops.size := by omega
    have := b2 p hpq hon a
    rw [at_ p hp, at_ q hq] at this
    refine this ha ?_
    dsimp only
    unfold watchOf
    rw [if_pos hE]
    refine List.mem_filter.2 ⟨?_, ?_⟩
    · rw [key p hp]; exact List.getElem_mem ..
    · simp only [hL, Bool.true_and, Bool.not_eq_true']
      cases hb : reachN ops.size (masksN (edgesAt ops) ops.size ord 0) (ord.getD p 0) (ord.getD q 0) with
      | false => rfl
      | true => exact absurd (reachN_spec (by rw [key p hp]; exact hok.lt _ (List.getElem_mem ..)) hb) hno

/-- The slots where what is listed has been done. -/
def envAt (P : Program) (ops : Array Oper) (num : Nat → Nat) (tr : Tr) (D : Nat → Bool) : Nat → Env
  | 0 => tr.E 0
  | p + 1 => if D (num p) then (envAt P ops num tr D p).put (opAt P ops (num p)).dst (tr.Vv p) else envAt P ops num tr D p

theorem envAt_len {P ops num tr} (D : Nat → Bool) : ∀ p, (envAt P ops num tr D p).length = (tr.E 0).length
  | 0 => rfl
  | p + 1 => by
    rw [envAt]
    split
    · rw [Env.length_put]; exact envAt_len D p
    · exact envAt_len D p

theorem put_congr {e e' : Env} (hl : e.length = e'.length) {t : Nat} (h : e.get t = e'.get t) (d : Option Nat) (v : V) : (e.put d v).get t = (e'.put d v).get t := by
  cases d with
  | none => exact h
  | some d => simp only [Env.put, Env.get_set, hl, h]

section
variable {P : Program} {T : Tab} {ih : Exec} {ops : Array Oper} {num : Nat → Nat} {tr : Tr}

theorem Run.len (hr : Run P T ih ops num tr) : ∀ p, p ≤ ops.size → (tr.E p).length = (tr.E 0).length
  | 0, _ => rfl
  | p + 1, hp => by rw [(hr.step p (by omega)).env, Env.length_put]; exact hr.len p (by omega)

theorem not_ahead (hp : Plan T.K P ops num) {D : Nat → Bool} (hcl : ∀ j, D j = true → ∀ e ∈ edgesAt ops j, D e = true) {p q : Nat} (hq : q < ops.size) (hpq : p < q) (hDp : D (num p) = false) (hDq : ∀ e ∈ edgesAt ops (num q), D e = true) :
    disj (opAt P ops (num p)).dst (opAt P ops (num q)).names = true ∧ disj (opAt P ops (num q)).dst (opAt P ops (num p)).names = true ∧ (opAt P ops (num p)).i.isE T.K = false := by
  rcases hp.pair p q hpq hq with h | h
  · have := h.closed hcl hDq
    rw [hDp] at this; cases this
  · exact h

theorem env_names (hpl : Plan T.K P ops num) (hr : Run P T ih ops num tr) {D : Nat → Bool} (hcl : ∀ j, D j = true → ∀ e ∈ edgesAt ops j, D e = true) {p : Nat} (hp : p < ops.size) (hD : D (num p) = false) (hready : ∀ e ∈ edgesAt ops (num p), D e = true) :
    ∀ t ∈ (opAt P ops (num p)).names, (envAt P ops num tr D ops.size).get t = (tr.E p).get t := by
  intro t ht
  have h1 : ∀ q, q ≤ p → (envAt P ops num tr D q).get t = (tr.E q).get t := by
    intro q
    induction q with
    | zero => intro _; rfl
    | succ q ihq =>
      intro hq
      rw [(hr.step q (by omega)).env, envAt]
      split
      · exact put_congr (by rw [envAt_len, hr.len q (by omega)]) (ihq (by omega)) _ _
      · rename_i hDq
        rw [ihq (by omega), Env.put_get]
        exact disj_spec (not_ahead hpl hcl hp (by omega) (by simpa using hDq) hready).1 ht
  have h2 : ∀ j, p + j ≤ ops.size → (envAt P ops num tr D (p + j)).get t = (tr.E p).get t := by
    intro j
    induction j with
    | zero => intro _; exact h1 p (Nat.le_refl _)
    | succ j ihj =>
      intro hj
      rw [show p + (j + 1) = (p + j) + 1 by omega, envAt]
      split
      · rename_i hDq
        rw [Env.put_get, ihj (by omega)]
        cases j with
        | zero => rw [Nat.add_zero, hD] at hDq; cases hDq
        | succ j => exact disj_spec (not_ahead hpl hcl (by omega) (by omega) hD (hcl _ hDq)).2.1 ht
      · exact ihj (by omega)
  have := h2 (ops.size - p) (by omega)
  rwa [show p + (ops.size - p) = ops.size by omega] at this

theorem dst_names (o : Op) {t : Nat} (h : o.dst = some t) : t ∈ o.names := by
  unfold Op.names; rw [h]; simp

theorem env_plus (hpl : Plan T.K P ops num) {D : Nat → Bool} (hcl : ∀ j, D j = true → ∀ e ∈ edgesAt ops j, D e = true) {p : Nat} (hp : p < ops.size) (hD : D (num p) = false) (_hready : ∀ e ∈ edgesAt ops (num p), D e = true) :
    envAt P ops num tr (plus D (num p)) ops.size = (envAt P ops num tr D ops.size).put (opAt P ops (num p)).dst (tr.Vv p) := by
  have hne : ∀ q, q < ops.size → q ≠ p → plus D (num p) (num q) = D (num q) := fun q hq hqp => by
    have : (num q == num p) = false := by
      rw [beq_eq_false_iff_ne]; exact fun e => hqp (hpl.inj q p hq hp e)
    simp [plus, this]
  have h1 : ∀ q, q ≤ p → envAt P ops num tr (plus D (num p)) q = envAt P ops num tr D q := by
    intro q
    induction q with
    | zero => intro _; rfl
    | succ q ihq =>
      intro hq
      rw [envAt, envAt, hne q (by omega) (by omega), ihq (by omega)]
  have h2 : ∀ j, p + 1 + j ≤ ops.size → envAt P ops num tr (plus D (num p)) (p + 1 + j) = (envAt P ops num tr D (p + 1 + j)).put (opAt P ops (num p)).dst (tr.Vv p) := by
    intro j
    induction j with
    | zero =>
      intro _
      rw [Nat.add_zero, envAt, envAt, h1 p (Nat.le_refl _), hD]
      simp [plus]
    | succ j ihj =>
      intro hj
      rw [show p + 1 + (j + 1) = (p + 1 + j) + 1 by omega, envAt, envAt, hne (p + 1 + j) (by omega) (by omega), ihj (by omega)]
      split
      · rename_i hDq
        have := (not_ahead hpl hcl (p := p) (q := p + 1 + j) (by omega) (by omega) hD (hcl _ hDq)).2.1
        exact Env.put_comm _ _ _ _ _ fun t ht => disj_spec this (dst_names _ ht)
      · rfl
  have := h2 (ops.size - (p + 1)) (by omega)
  rwa [show p + 1 + (ops.size - (p + 1)) = ops.size by omega] at this

theorem env_all (hr : Run P T ih ops num tr) {D : Nat → Bool} (hpl : Plan T.K P ops num) (hall : ∀ i, i < ops.size → D i = true) : ∀ p, p ≤ ops.size → envAt P ops num tr D p = tr.E p
  | 0, _ => rfl
  | p + 1, hp => by rw [envAt, if_pos (hall _ (hpl.lt p (by omega))), (hr.step p (by omega)).env, env_all hr hpl hall p (by omega)]

theorem asks_names (o : Op) {t : Nat} (h : t ∈ o.asks) : t ∈ o.names := by
  unfold Op.asks at h
  unfold Op.names
  rcases List.mem_append.1 h with h | h
  · exact List.mem_append_left _ (List.mem_append_right _ h)
  · exact List.mem_append_right _ h

theorem asked_agree {e e' : Env} {g : Option (Nat × Bool)} (h : ∀ d w, g = some (d, w) → e.get d = e'.get d) : asked e g = asked e' g := by
  cases g with
  | none => rfl
  | some g =>
    obtain ⟨d, w⟩ := g
    simp only [asked]
    rw [h d w rfl]

theorem Run.to (hr : Run P T ih ops num tr) (hto : ToX ih) : ∀ p j, p + j ≤ ops.size → (tr.Hh p).To (tr.Hh (p + j))
  | p, 0, _ => H.To.refl _
  | p, j + 1, hj => by
    refine (hr.to hto p j (by omega)).trans ?_
    have hs := hr.step (p + j) (by omega)
    cases hon : tr.On (p + j) with
    | true => exact oper_to hto (hs.on hon)
    | false =>
      rw [show p + (j + 1) = p + j + 1 by omega, (hs.off hon).2]
      exact H.To.refl _

theorem isA_new {e : Env} {h h' : H} {i : I} {v : V} (hA : i.isA = true) (hi : oper T ih e h i = some (v, h')) : iop e h i = some (v, h') ∧ ∃ rc, h' = h.new rc := by
  have hi' : iop e h i = some (v, h') := by
    cases i <;> first | exact hi | (simp [I.isA] at hA)
  refine ⟨hi', ?_⟩
  cases i <;> first | (simp [I.isA] at hA; done) | skip
  all_goals
    simp only [iop] at hi'
    repeat' split at hi'
    all_goals first
      | (cases hi'; done)
      | (obtain ⟨_, rfl⟩ := Prod.mk.inj (Option.some.inj hi'); exact ⟨_, rfl⟩)

theorem isL_same {e : Env} {h h' : H} {i : I} {v : V} (hL : i.isL = true) (hi : oper T ih e h i = some (v, h')) : h' = h ∧ ∃ agg n x, i = .load agg n x ∧ loadV h agg n (ev e x) = some v := by
  cases i <;> first | (simp [I.isL] at hL; done) | skip
  rename_i agg n x
  simp only [oper, iop] at hi
  split at hi
  · rename_i v' hv
    obtain ⟨rfl, rfl⟩ := Prod.mk.inj (Option.some.inj hi)
    exact ⟨rfl, agg, n, x, rfl, hv⟩
  · cases hi

/-- What turns nothing leaves the heap, or lays one row. -/
theorem nonE_heap (hr : Run P T ih ops num tr) {p : Nat} (hp : p < ops.size) (hE : (opAt P ops (num p)).i.isE T.K = false) : tr.Hh (p + 1) = tr.Hh p ∨ ∃ rc, tr.Hh (p + 1) = (tr.Hh p).new rc := by
  have hs := hr.step p hp
  cases hon : tr.On p with
  | false => exact .inl (hs.off hon).2
  | true =>
    have ho := hs.on hon
    cases hA : (opAt P ops (num p)).i.isA with
    | true => exact .inr (isA_new hA ho).2
    | false =>
      cases hL : (opAt P ops (num p)).i.isL with
      | true => exact .inl (isL_same hL ho).1
      | false => exact .inl (neutral hE hA hL ho).1

/-- A load behind its place. -/
theorem load_late (hr : Run P T ih ops num tr) (hto : ToX ih) (hwf : (tr.Hh 0).Wf) {p k : Nat} (hpk : p < k) (hk : k ≤ ops.size) (hon : tr.On p = true) (hL : (opAt P ops (num p)).i.isL = true)
    (hno : ∀ q, p < q → q < k → (opAt P ops (num q)).i.isE T.K = true → ¬ Reach (edgesAt ops) (num p) (num q)) :
    oper T ih (tr.E p) (tr.Hh k) (opAt P ops (num p)).i = some (tr.Vv p, tr.Hh k) := by
  have ho := (hr.step p (by omega)).on hon
  obtain ⟨h0, agg, n, x, hi, hv⟩ := isL_same hL ho
  have hrd : (opAt P ops (num p)).i.reads (tr.E p) = some (ev (tr.E p) x) := by rw [hi]; rfl
  have goal : loadV (tr.Hh k) agg n (ev (tr.E p) x) = some (tr.Vv p) := by
    cases ha : ev (tr.E p) x with
    | ptr b o =>
      rw [ha] at hv hrd
      cases hrow : (tr.Hh p).row b with
      | none => simp [loadV, hrow] at hv
      | some r =>
        have hver : verOf (tr.Hh p) (.ptr b o) = some r.ver := by simp [verOf, hrow]
        have key : ∀ j, p + 1 + j ≤ k → verOf (tr.Hh (p + 1 + j)) (.ptr b o) = some r.ver := by
          intro j
          induction j with
          | zero => intro _; rw [Nat.add_zero, h0]; exact hver
          | succ j ihj =>
            intro hj
            have h1 := ihj (by omega)
            rw [show p + 1 + (j + 1) = (p + 1 + j) + 1 by omega]
            have hstay : tr.Hh (p + 1 + j + 1) = tr.Hh (p + 1 + j) ∨ (∃ rc, tr.Hh (p + 1 + j + 1) = (tr.Hh (p + 1 + j)).new rc) → verOf (tr.Hh (p + 1 + j + 1)) (.ptr b o) = some r.ver := by
              rintro (h | ⟨rc, h⟩)
              · rw [h]; exact h1
              · rw [h]
                unfold verOf at h1 ⊢
                dsimp only at h1 ⊢
                rw [H.row_new, if_neg]
                · exact h1
                · intro hb
                  cases hr2 : (tr.Hh (p + 1 + j)).row b with
                  | none => rw [hr2] at h1; cases h1
                  | some r2 =>
                    have := H.row_lt hr2
                    rw [hb] at this; exact absurd this (Nat.lt_irrefl _)
            cases hE : (opAt P ops (num (p + 1 + j))).i.isE T.K with
            | false => exact hstay (nonE_heap hr (by omega) hE)
            | true =>
              cases hon2 : tr.On (p + 1 + j) with
              | false => exact hstay (.inl ((hr.step (p + 1 + j) (by omega)).off hon2).2)
              | true =>
                obtain ⟨y, e1, e2⟩ := hr.read p (p + 1 + j) (by omega) (by omega) hon hon2 hE hL (hno _ (by omega) (by omega) hE) _ hrd
                rw [hver] at e1
                rw [e2, e1]
        have hk2 := key (k - (p + 1)) (by omega)
        rw [show p + 1 + (k - (p + 1)) = k by omega] at hk2
        obtain ⟨wfp, _⟩ := hr.to hto 0 p (by omega) hwf
        rw [Nat.zero_add] at wfp
        obtain ⟨_, le⟩ := hr.to hto p (k - p) (by omega) wfp
        rw [show p + (k - p) = k by omega] at le
        unfold verOf at hk2
        dsimp only at hk2
        split at hk2
        · rename_i r2 hr2
          have := same_row wfp le hrow hr2 (Option.some.inj hk2).symm
          subst this
          simp only [loadV, hrow] at hv
          simp only [loadV, hr2]
          exact hv
        · cases hk2
    | _ => (rw [ha] at hv; first | (simp [loadV] at hv; done) | simpa [loadV] using hv)
  rw [hi]
  simp only [oper, iop, goal]

end

end Go.AM
