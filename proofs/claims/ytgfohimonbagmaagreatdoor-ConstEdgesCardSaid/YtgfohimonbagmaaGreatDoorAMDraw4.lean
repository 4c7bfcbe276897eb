/- A region that draws its order: the steps of any order, against the abstract machine's own. -/
import Derived.Test.YtgfohimonbagmaaGreatDoorAMDraw3
namespace Go.AM
open Go.RowKit (Below)

section
variable {P : Program} {T : Tab} {ih : Exec} {ops : Array Oper} {num : Nat → Nat} {tr : Tr}

/-- Where a run in any order stands: what is listed, how far the heap has come. -/
structure Inv (P : Program) (T : Tab) (ops : Array Oper) (num : Nat → Nat) (tr : Tr) (m0 : M) (B : Nat) (w0 : World) (D : Nat → Bool) (k : Nat) (m : M) (w : World) : Prop where
  kn : k ≤ ops.size
  front : ∀ q, k ≤ q → q < ops.size → D (num q) = false
  back : ∀ q, q < k → (opAt P ops (num q)).i.isE T.K = true → D (num q) = true
  sim : Sim m B (tr.Hh k) w
  grows : Grows B m0 m (tr.Hh 0) (tr.Hh k) w0 w
  fresh : ∀ q, q < k → D (num q) = false → tr.On q = true → (opAt P ops (num q)).i.isA = true → m.φ (tr.Hh q).next = none ∧ (tr.Hh k).rows[(tr.Hh q).next]? = (tr.Hh (q + 1)).rows[(tr.Hh q).next]?

theorem fresh_lt (hr : Run P T ih ops num tr) {q : Nat} (hq : q < ops.size) (hon : tr.On q = true) (hA : (opAt P ops (num q)).i.isA = true) : ∃ rc, tr.Hh (q + 1) = (tr.Hh q).new rc ∧ (tr.Hh (q + 1)).rows[(tr.Hh q).next]? = some ⟨rc, (tr.Hh q).clk, false⟩ := by
  obtain ⟨_, rc, h⟩ := isA_new hA ((hr.step q hq).on hon)
  refine ⟨rc, h, ?_⟩
  rw [h]
  simp [H.new, H.next]

/-- On over what turns nothing. -/
theorem Inv.advance (hr : Run P T ih ops num tr) {m0 B w0 D m w} : ∀ j k, k + j = ops.size → Inv P T ops num tr m0 B w0 D k m w →
    ∃ k', Inv P T ops num tr m0 B w0 D k' m w ∧ (k' < ops.size → (opAt P ops (num k')).i.isE T.K = true)
  | 0, k, hk, hi => ⟨k, hi, fun h => by omega⟩
  | j + 1, k, hk, hi => by
    cases hE : (opAt P ops (num k)).i.isE T.K with
    | true => exact ⟨k, hi, fun _ => hE⟩
    | false =>
      refine Inv.advance hr j (k + 1) (by omega) ?_
      have hlt : k < ops.size := by omega
      have hfront : ∀ q, k + 1 ≤ q → q < ops.size → D (num q) = false := fun q h1 h2 => hi.front q (by omega) h2
      have hback : ∀ q, q < k + 1 → (opAt P ops (num q)).i.isE T.K = true → D (num q) = true := fun q h1 h2 => by
        by_cases hq : q = k
        · subst hq; rw [hE] at h2; cases h2
        · exact hi.back q (by omega) h2
      rcases nonE_heap hr hlt hE with h | ⟨rc, h⟩
      · refine ⟨by omega, hfront, hback, by rw [h]; exact hi.sim, by rw [h]; exact hi.grows, fun q h1 h2 h3 h4 => ?_⟩
        by_cases hq : q = k
        · subst hq
          obtain ⟨rc, h5, _⟩ := fresh_lt hr hlt h3 h4
          exfalso
          rw [h] at h5
          have := congrArg (fun x => x.rows.length) h5
          simp [H.new] at this
        · rw [h]; exact hi.fresh q (by omega) h2 h3 h4
      · refine ⟨by omega, hfront, hback, by rw [h]; exact hi.sim.addRow rc, by rw [h]; exact hi.grows.trans (Grows.addRow rc), fun q h1 h2 h3 h4 => ?_⟩
        by_cases hq : q = k
        · subst hq
          exact ⟨hi.sim.fresh, rfl⟩
        · obtain ⟨a1, a2⟩ := hi.fresh q (by omega) h2 h3 h4
          obtain ⟨rc', h5, h6⟩ := fresh_lt hr (q := q) (by omega) h3 h4
          refine ⟨a1, ?_⟩
          rw [h6] at a2 ⊢
          rw [h]
          have hl := (List.getElem?_eq_some_iff.1 a2).1
          show ((tr.Hh k).rows ++ _)[_]? = _
          rw [List.getElem?_append_left hl]; exact a2

/-- ONE OPERATION, in any order. -/
theorem op_any (hT : TabOK P T) (hih : ExecOK P T.K ih) (hto : ToX ih) (hpl : Plan T.K P ops num) (hr : Run P T ih ops num tr) (hwf : (tr.Hh 0).Wf)
    {m0 B w0 D k m w} (hi : Inv P T ops num tr m0 B w0 D k m w) (hstop : k < ops.size → (opAt P ops (num k)).i.isE T.K = true) (hcl : ∀ j, D j = true → ∀ e ∈ edgesAt ops j, D e = true)
    {i : Nat} (hin : i < ops.size) (hDi : D i = false) (hready : ∀ e ∈ edgesAt ops i, D e = true)
    {a : Act} (he : EnvRel m (envAt P ops num tr D ops.size) a.tmps) {rest : List Nat} {Q : Exit → Act → World → Prop}
    (hn : ∀ a' k' m' w', Inv P T ops num tr m0 B w0 (plus D i) k' m' w' → (k' < ops.size → (opAt P ops (num k')).i.isE T.K = true) → EnvRel m' (envAt P ops num tr (plus D i) ops.size) a'.tmps → a'.defers = a.defers → wpOps P ops Q rest a' w') :
    wpOps P ops Q (i :: rest) a w := by
  obtain ⟨p, hp, rfl⟩ := hpl.sur i hin
  obtain ⟨o, hoo⟩ : ∃ o, ops[num p]? = some o := ⟨_, Array.getElem?_eq_getElem hin⟩
  have hat : opAt P ops (num p) = cOper P ops o := by unfold opAt; rw [hoo]
  have hs := hr.step p hp
  have hag := env_names hpl hr hcl hp hDi hready
  have hagA : Agree (envAt P ops num tr D ops.size) (tr.E p) (opAt P ops (num p)).i.uses := fun t ht => hag t (asks_names _ (by unfold Op.asks; exact List.mem_append_left _ ht))
  have hask : asked (envAt P ops num tr D ops.size) (opAt P ops (num p)).guard = some (tr.On p) := by
    rw [← hs.asked]
    refine asked_agree fun d b hg => hag d (asks_names _ ?_)
    unfold Op.asks; rw [hg]; simp
  have hplus := env_plus (tr := tr) hpl hcl hp hDi hready
  have hne : ∀ q, q < ops.size → q ≠ p → plus D (num p) (num q) = D (num q) := fun q hq hqp => by
    have : (num q == num p) = false := by
      rw [beq_eq_false_iff_ne]; exact fun e => hqp (hpl.inj q p hq hp e)
    simp [plus, this]
  have hsub : ∀ x, D x = true → plus D (num p) x = true := fun x hx => by simp [plus, hx]
  have hput : ∀ v, (a.put o.dst v).defers = a.defers := fun v => by cases o.dst <;> rfl
  have hrel : ∀ m' v', m.Le m' → Rel m' (tr.Vv p) v' → EnvRel m' (envAt P ops num tr (plus D (num p)) ops.size) (a.put o.dst v').tmps := fun m' v' hle hv => by
    rw [hplus, hat, cOper_dst]
    exact EnvRel.put (he.mono hle) _ hv
  simp only [wpOps, hoo]
  rw [wanted_asked he (b := tr.On p) (by rw [← hat]; exact hask) (fun hon hbad => by
    have := hs.on hon
    rw [← hat] at hbad
    simp [hbad, oper, iop] at this)]
  -- where p stands
  have hpk : p < k ∨ (p = k ∧ (opAt P ops (num p)).i.isE T.K = true) := by
    rcases Nat.lt_trichotomy p k with h | h | h
    · exact .inl h
    · subst h; exact .inr ⟨rfl, hstop hp⟩
    · have hk : k < ops.size := by omega
      have hDk := hi.front k (Nat.le_refl _) hk
      have h3 := (not_ahead hpl hcl hp h hDk hready).2.2
      rw [hstop hk] at h3; cases h3
  -- what does not turn the heap
  have still : p < k → ∀ m' w' v', Sim m' B (tr.Hh k) w' → Grows B m m' (tr.Hh k) (tr.Hh k) w w' → Rel m' (tr.Vv p) v' → wpOps P ops Q rest (a.put o.dst v') w' := fun hpk m' w' v' s1 g1 r1 => by
    refine hn _ k m' w' ⟨hi.kn, fun q h1 h2 => by rw [hne q h2 (by omega)]; exact hi.front q h1 h2, fun q h1 h2 => hsub _ (hi.back q h1 h2), s1, hi.grows.trans g1, fun q h1 h2 h3 h4 => ?_⟩ hstop (hrel m' v' g1.le r1) (hput v')
    have hkn := hi.kn
    have hqp : q ≠ p := fun e => by subst e; simp [plus] at h2
    rw [hne q (by omega) hqp] at h2
    obtain ⟨b1, b2⟩ := hi.fresh q h1 h2 h3 h4
    obtain ⟨_, _, h6⟩ := fresh_lt hr (q := q) (by omega) h3 h4
    have hl : (tr.Hh q).next < (tr.Hh k).rows.length := by rw [h6] at b2; exact (List.getElem?_eq_some_iff.1 b2).1
    obtain ⟨c1, c2⟩ := g1.rest _ hl b1
    exact ⟨c1, b2⟩
  -- what does
  have turn : p = k → ∀ m' w' v', Sim m' B (tr.Hh (k + 1)) w' → Grows B m m' (tr.Hh k) (tr.Hh (k + 1)) w w' → Rel m' (tr.Vv p) v' → wpOps P ops Q rest (a.put o.dst v') w' := fun hpk m' w' v' s1 g1 r1 => by
    have hinv : Inv P T ops num tr m0 B w0 (plus D (num p)) (k + 1) m' w' := by
      refine ⟨by omega, fun q h1 h2 => by rw [hne q h2 (by omega)]; exact hi.front q (by omega) h2, fun q h1 h2 => ?_, s1, hi.grows.trans g1, fun q h1 h2 h3 h4 => ?_⟩
      · by_cases hq : q = p
        · subst hq; simp [plus]
        · exact hsub _ (hi.back q (by omega) h2)
      · have hqp : q ≠ p := fun e => by subst e; simp [plus] at h2
        rw [hne q (by omega) hqp] at h2
        obtain ⟨b1, b2⟩ := hi.fresh q (by omega) h2 h3 h4
        obtain ⟨_, _, h6⟩ := fresh_lt hr (q := q) (by omega) h3 h4
        have hl : (tr.Hh q).next < (tr.Hh k).rows.length := by rw [h6] at b2; exact (List.getElem?_eq_some_iff.1 b2).1
        obtain ⟨c1, c2⟩ := g1.rest _ hl b1
        exact ⟨c1, by rw [c2]; exact b2⟩
    obtain ⟨k', h1, h2⟩ := hinv.advance hr (ops.size - (k + 1)) (k + 1) (by omega)
    exact hn _ k' m' w' h1 h2 (hrel m' v' g1.le r1) (hput v')
  cases hon : tr.On p with
  | false =>
    obtain ⟨h1, h2⟩ := hs.off hon
    have hu : Rel m (tr.Vv p) undef := by rw [h1]; exact rel_tup .nil
    simp only [Bool.false_eq_true, if_false]
    rcases hpk with h | ⟨h, _⟩
    · exact still h m w undef hi.sim (Grows.refl ..) hu
    · refine turn h m w undef ?_ ?_ hu
      · rw [← h, h2, h]; exact hi.sim
      · rw [← h, h2, h]; exact Grows.refl ..
  | true =>
    simp only [if_true]
    refine .inl ?_
    have ho := hs.on hon
    dsimp only at ho
    have hcI : cI P o.type o.op = some (opAt P ops (num p)).i := by
      rw [hat] at ho ⊢
      exact cOper_spec ho
    have wfk : (tr.Hh k).Wf := by
      have := (hr.to hto 0 k (by have := hi.kn; omega) hwf).1
      rwa [Nat.zero_add] at this
    rcases hpk with h | ⟨h, hE⟩
    · have hE : (opAt P ops (num p)).i.isE T.K = false := by
        cases hE : (opAt P ops (num p)).i.isE T.K with
        | false => rfl
        | true => have := hi.back p h hE; rw [hDi] at this; cases this
      cases hA : (opAt P ops (num p)).i.isA with
      | false =>
        -- it reads at most
        have hrun : oper T ih (envAt P ops num tr D ops.size) (tr.Hh k) (opAt P ops (num p)).i = some (tr.Vv p, tr.Hh k) := by
          rw [oper_agree hagA]
          cases hL : (opAt P ops (num p)).i.isL with
          | false => exact (neutral hE hA hL ho).2 _
          | true =>
            refine load_late hr hto hwf h hi.kn hon hL fun q h1 h2 h3 hre => ?_
            have := hre.closed hcl (hcl _ (hi.back q h2 h3))
            rw [hDi] at this; cases this
        refine oper_sound hT hih wfk hi.sim he hcI hrun fun m' v' w' r1 s1 g1 => ?_
        exact still h m' w' v' s1 g1 r1
      | true =>
        -- a row that is laid late
        have ho2 : oper T ih (envAt P ops num tr D ops.size) (tr.Hh p) (opAt P ops (num p)).i = some (tr.Vv p, tr.Hh (p + 1)) := by rw [oper_agree hagA]; exact ho
        obtain ⟨hiop, _⟩ := isA_new hA ho2
        obtain ⟨rc, vf, hlays, s, hall, hex⟩ := lays (cO_rel (P := P) he) hA hcI hiop
        have hval := hlays (tr.Hh p)
        rw [hiop] at hval
        obtain ⟨hv1, hv2⟩ := Prod.mk.inj (Option.some.inj hval)
        obtain ⟨cs, el, fz, v', w', g1, g2, g3, g4, g5, g6⟩ := hall w
        obtain ⟨f1, f2⟩ := hi.fresh p h hDi hon hA
        have hrow : (tr.Hh k).rows[(tr.Hh p).next]? = some ⟨rc, (tr.Hh p).clk, false⟩ := by rw [f2, hv2]; simp [H.new, H.next]
        have hle := M.at_le (p := ⟨w.heap.size, 0, cs.size, rc.size⟩) f1
        have hsim : Sim (m.at_ (tr.Hh p).next ⟨w.heap.size, 0, cs.size, rc.size⟩) B (tr.Hh k) w' := hi.sim.mat g2 f1 hrow rfl cs el fz g3 g4 g5
        unfold Oper.wp
        rw [hex, Sem.run_bind, g1]
        show wpOps P ops Q rest (a.put o.dst v') w'
        have hkn := hi.kn
        have hold : ∀ x, x < w.heap.size → w'.heap[x]? = w.heap[x]? := fun x hx => by rw [g3]; exact heap_push_lt hx
        have hbelow : Below B w w' := below_of g2.os g2.tape g2.output (by rw [g3]; simp) fun x hx => hold x (by have := hi.sim.bound; omega)
        have hnext : ∀ q, q < p → (tr.Hh q).next ≤ (tr.Hh p).next := fun q hq => by
          have w1 : (tr.Hh q).Wf := by
            have := (hr.to hto 0 q (by omega) hwf).1
            rwa [Nat.zero_add] at this
          have := (hr.to hto q (p - q) (by omega) w1).2.len
          rwa [show q + (p - q) = p by omega] at this
        have hnext2 : ∀ q, p < q → q < k → (tr.Hh (p + 1)).next ≤ (tr.Hh q).next := fun q hq hqk => by
          have w1 : (tr.Hh (p + 1)).Wf := by
            have := (hr.to hto 0 (p + 1) (by omega) hwf).1
            rwa [Nat.zero_add] at this
          have := (hr.to hto (p + 1) (q - (p + 1)) (by omega) w1).2.len
          rwa [show p + 1 + (q - (p + 1)) = q by omega] at this
        have hnx : ∀ q, q ≠ p → q < k → tr.On q = true → (opAt P ops (num q)).i.isA = true → (tr.Hh q).next ≠ (tr.Hh p).next := fun q hqp hqk h3 h4 e => by
          rcases Nat.lt_or_gt_of_ne hqp with hl | hl
          · obtain ⟨rc', h5, _⟩ := fresh_lt hr (q := q) (by omega) h3 h4
            have w1 : (tr.Hh (q + 1)).Wf := by
              have := (hr.to hto 0 (q + 1) (by omega) hwf).1
              rwa [Nat.zero_add] at this
            have := (hr.to hto (q + 1) (p - (q + 1)) (by omega) w1).2.len
            rw [show q + 1 + (p - (q + 1)) = p by omega, h5] at this
            simp only [H.new, List.length_append, List.length_singleton] at this
            unfold H.next at e; omega
          · have := hnext2 q hl hqk
            rw [hv2] at this
            simp only [H.new, H.next, List.length_append, List.length_singleton] at this e
            omega
        have hge : (tr.Hh 0).rows.length ≤ (tr.Hh p).next := by
          have := (hr.to hto 0 p (by omega) hwf).2.len
          rwa [Nat.zero_add] at this
        have hφ : ∀ x, x ≠ (tr.Hh p).next → (m.at_ (tr.Hh p).next ⟨w.heap.size, 0, cs.size, rc.size⟩).φ x = m.φ x := fun x hx => by
          show (if x = _ then _ else _) = _
          rw [if_neg hx]
        refine hn _ k _ w' ⟨hkn, fun q h1 h2 => by rw [hne q h2 (by omega)]; exact hi.front q h1 h2, fun q h1 h2 => hsub _ (hi.back q h1 h2), hsim, ?_, fun q h1 h2 h3 h4 => ?_⟩ hstop (hrel _ v' hle ?_) (hput v')
        · refine ⟨hi.grows.le.trans hle, hi.grows.below.trans hbelow, fun b hb e => ?_, hi.grows.len, fun x hx => hi.grows.ghost x hx⟩
          obtain ⟨c1, c2⟩ := hi.grows.rest b hb e
          exact ⟨by rw [hφ b (by omega)]; exact c1, c2⟩
        · have hqp : q ≠ p := fun e => by subst e; simp [plus] at h2
          rw [hne q (by omega) hqp] at h2
          obtain ⟨b1, b2⟩ := hi.fresh q h1 h2 h3 h4
          exact ⟨by rw [hφ _ (hnx q hqp h1 h3 h4)]; exact b1, b2⟩
        · rw [hv1]
          exact g6 _ _ (by show (if _ = _ then _ else _) = _; rw [if_pos rfl])
    · have hrun : oper T ih (envAt P ops num tr D ops.size) (tr.Hh k) (opAt P ops (num p)).i = some (tr.Vv p, tr.Hh (k + 1)) := by
        rw [oper_agree hagA, ← h]; exact ho
      refine oper_sound hT hih wfk hi.sim he hcI hrun fun m' v' w' r1 s1 g1 => ?_
      exact turn h m' w' v' s1 g1 r1

/-- ANY ORDER. -/
theorem any_order (hT : TabOK P T) (hih : ExecOK P T.K ih) (hto : ToX ih) (hpl : Plan T.K P ops num) (hr : Run P T ih ops num tr) (hwf : (tr.Hh 0).Wf) {m0 B w0} {Q : Exit → Act → World → Prop} {df}
    (hQ : ∀ a' m' w', EnvRel m' (tr.E ops.size) a'.tmps → a'.defers = df → Sim m' B (tr.Hh ops.size) w' → Grows B m0 m' (tr.Hh 0) (tr.Hh ops.size) w0 w' → Q .normal a' w') :
    ∀ (l : List Nat) (D : Nat → Bool) (k : Nat) (m : M) (w : World) (a : Act), Inv P T ops num tr m0 B w0 D k m w → (k < ops.size → (opAt P ops (num k)).i.isE T.K = true) → (∀ j, D j = true → ∀ e ∈ edgesAt ops j, D e = true) →
      ValidL (edgesAt ops) ops.size D l → (∀ i, i < ops.size → D i = true ∨ i ∈ l) → EnvRel m (envAt P ops num tr D ops.size) a.tmps → a.defers = df → wpOps P ops Q l a w
  | [], D, k, m, w, a, hi, hstop, hcl, _, hall, he, hd => by
    have hD : ∀ i, i < ops.size → D i = true := fun i hin => by
      rcases hall i hin with h | h
      · exact h
      · cases h
    have hk : k = ops.size := by
      have hkn := hi.kn
      rcases Nat.lt_or_ge k ops.size with h | h
      · have := hi.front k (Nat.le_refl _) h
        rw [hD _ (hpl.lt k h)] at this; cases this
      · omega
    subst hk
    rw [env_all hr hpl hD _ (Nat.le_refl _)] at he
    exact hQ a m w he hd hi.sim hi.grows
  | i :: l, D, k, m, w, a, hi, hstop, hcl, ⟨h1, h2, h3, h4⟩, hall, he, hd => by
    refine op_any hT hih hto hpl hr hwf hi hstop hcl h1 h2 h3 he fun a' k' m' w' g1 g2 g3 g4 => ?_
    refine any_order hT hih hto hpl hr hwf hQ l (plus D i) k' m' w' a' g1 g2 (fun j hj e he => ?_) h4 (fun x hx => ?_) g3 (g4.trans hd)
    · simp only [plus, Bool.or_eq_true, beq_iff_eq] at hj ⊢
      rcases hj with rfl | hj
      · exact .inr (h3 e he)
      · exact .inr (hcl j hj e he)
    · rcases hall x hx with h | h
      · exact .inl (by simp [plus, h])
      · rcases List.mem_cons.1 h with rfl | h
        · exact .inl (by simp [plus])
        · exact .inr h

end

/-- A REGION THAT DRAWS. -/
theorem draw_sound {P : Program} {T : Tab} {ih : Exec} (hT : TabOK P T) (hih : ExecOK P T.K ih) (hto : ToX ih) {ops : Array Oper} {ord : List Nat} (hok : okD T.K P ops ord = true) {e e' : Env} {h h' : H}
    (hrun : opersD T ih (mkD T.K P ops ord) [] e h = some (e', h')) (hwf : h.Wf) {a : Act} {m B w} (hs : Sim m B h w) (he : EnvRel m e a.tmps) {Q : Exit → Act → World → Prop}
    (hQ : ∀ a' m' w', EnvRel m' e' a'.tmps → a'.defers = a.defers → Sim m' B h' w' → Grows B m m' h h' w w' → Q .normal a' w') (mixed : Bool) (t : Nat) : wpOps P ops Q (Region.schedule mixed ops t) a w := by
  obtain ⟨hord, hsch⟩ := okD_spec hok
  obtain ⟨hv, hall⟩ := hsch mixed t
  obtain ⟨tr, a1, a2, a3, a4, hr⟩ := run_of hord hrun
  have hpl := plan_of hord
  subst a1; subst a2; subst a3; subst a4
  have hinv0 : Inv P T ops (fun p => ord.getD p 0) tr m B w (fun _ => false) 0 m w := ⟨Nat.zero_le _, fun _ _ _ => rfl, fun q hq => by omega, hs, Grows.refl .., fun q hq => by omega⟩
  obtain ⟨k, hi, hstop⟩ := hinv0.advance hr ops.size 0 (by omega)
  have henv : ∀ p, envAt P ops (fun p => ord.getD p 0) tr (fun _ => false) p = tr.E 0 := fun p => by
    induction p with
    | zero => rfl
    | succ p ih => rw [envAt]; simpa using ih
  exact any_order hT hih hto hpl hr hwf hQ _ _ k m w a hi hstop (fun j hj => by cases hj) hv (fun i hin => .inr (hall i hin)) (by rw [henv]; exact he) rfl

end Go.AM
