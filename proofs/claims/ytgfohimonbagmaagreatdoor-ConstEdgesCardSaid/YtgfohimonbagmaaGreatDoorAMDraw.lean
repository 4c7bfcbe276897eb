/- A region that draws its order: whatever order is drawn, it comes to what the abstract machine's own order comes to. -/
import Derived.Test.YtgfohimonbagmaaGreatDoorAMOper
namespace Go.AM
open Go.RowKit (Below)

/-- The abstract machine's run of a region, step by step. -/
structure Tr where
  E : Nat → Env
  Hh : Nat → H
  On : Nat → Bool
  Vv : Nat → V

/-- What one step of it does. -/
structure StepAt (T : Tab) (ih : Exec) (tr : Tr) (p : Nat) (o : OpD) : Prop where
  asked : asked (tr.E p) o.op.guard = some (tr.On p)
  on : tr.On p = true → oper T ih (tr.E p) (tr.Hh p) o.op.i = some (tr.Vv p, tr.Hh (p + 1))
  off : tr.On p = false → tr.Vv p = .tup [] ∧ tr.Hh (p + 1) = tr.Hh p
  env : tr.E (p + 1) = (tr.E p).put o.op.dst (tr.Vv p)

/-- What was read there is there still. -/
def FineX (a : V) (v : Option Nat) (h : H) : Prop :=
  match a with
  | .ptr .. => ∃ x, v = some x ∧ verOf h a = some x
  | _ => True

theorem fine_spec {h : H} {watch : List Nat} : ∀ {s : Seen}, Seen.fine h watch s = true → ∀ i a v, (i, a, v) ∈ s → i ∈ watch → FineX a v h
  | [], _, i, a, v, hm, _ => by cases hm
  | (j, b, u) :: r, hf, i, a, v, hm, hw => by
    simp only [Seen.fine, Bool.and_eq_true] at hf
    obtain ⟨h1, h2⟩ := hf
    rcases List.mem_cons.1 hm with e | hm
    · obtain ⟨rfl, rfl, rfl⟩ : i = j ∧ a = b ∧ v = u := by simpa using e
      have hc : watch.contains i = true := by simpa using hw
      rw [if_pos hc] at h1
      cases a with
      | ptr q o =>
        show ∃ x, v = some x ∧ verOf h (.ptr q o) = some x
        cases v with
        | none => simp at h1
        | some x =>
          cases hy : verOf h (.ptr q o) with
          | none => rw [hy] at h1; simp at h1
          | some y =>
            rw [hy] at h1
            simp only [beq_iff_eq] at h1
            exact ⟨x, rfl, by rw [h1]⟩
      | _ => trivial
    · exact fine_spec h2 i a v hm hw

theorem trace_of {T : Tab} {ih : Exec} : ∀ {l : List OpD} {s : Seen} {e : Env} {h : H} {e' h'}, opersD T ih l s e h = some (e', h') →
    ∃ tr : Tr, tr.E 0 = e ∧ tr.Hh 0 = h ∧ tr.E l.length = e' ∧ tr.Hh l.length = h' ∧ (∀ p (hp : p < l.length), StepAt T ih tr p l[p]) ∧
      (∀ p (hp : p < l.length), tr.On p = true → (∀ i a v, (i, a, v) ∈ s → i ∈ l[p].watch → FineX a v (tr.Hh (p + 1))) ∧
        ∀ q (hq : q < p), tr.On q = true → ∀ a, l[q].op.i.reads (tr.E q) = some a → l[q].no ∈ l[p].watch → FineX a (verOf (tr.Hh q) a) (tr.Hh (p + 1)))
  | [], s, e, h, e', h', hi => by
    simp only [opersD] at hi
    obtain ⟨rfl, rfl⟩ := Prod.mk.inj (Option.some.inj hi)
    exact ⟨⟨fun _ => e, fun _ => h, fun _ => true, fun _ => .undef⟩, rfl, rfl, rfl, rfl, fun p hp => by simp at hp, fun p hp => by simp at hp⟩
  | o :: r, s, e, h, e', h', hi => by
    simp only [opersD] at hi
    split at hi
    · rename_i hask
      split at hi
      · rename_i v h1 ho
        split at hi
        · rename_i hfine
          obtain ⟨tr, a1, a2, a3, a4, a5, a6⟩ := trace_of hi
          refine ⟨⟨fun p => match p with | 0 => e | p + 1 => tr.E p, fun p => match p with | 0 => h | p + 1 => tr.Hh p, fun p => match p with | 0 => true | p + 1 => tr.On p, fun p => match p with | 0 => v | p + 1 => tr.Vv p⟩, rfl, rfl, a3, a4, ?_, ?_⟩
          · intro p hp
            cases p with
            | zero => exact ⟨hask, fun _ => by simp only [a2]; exact ho, fun hx => (by cases hx), by simp only [a1]; rfl⟩
            | succ p =>
              have := a5 p (by simpa using hp)
              exact ⟨this.asked, this.on, this.off, this.env⟩
          · intro p hp hon
            cases p with
            | zero =>
              refine ⟨fun i a u hm hw => ?_, fun q hq => by omega⟩
              simp only [a2]
              exact fine_spec hfine i a u hm hw
            | succ p =>
              obtain ⟨b1, b2⟩ := a6 p (by simpa using hp) hon
              refine ⟨fun i a u hm hw => b1 i a u ?_ hw, fun q hq hq1 a hr hw => ?_⟩
              · split
                · exact List.mem_cons_of_mem _ hm
                · exact hm
              · cases q with
                | zero =>
                  have hr' : o.op.i.reads e = some a := hr
                  refine b1 o.no a (verOf h a) ?_ hw
                  rw [hr']; exact List.mem_cons_self ..
                | succ q => exact b2 q (by omega) hq1 a hr hw
        · cases hi
      · cases hi
    · rename_i hask
      obtain ⟨tr, a1, a2, a3, a4, a5, a6⟩ := trace_of hi
      refine ⟨⟨fun p => match p with | 0 => e | p + 1 => tr.E p, fun p => match p with | 0 => h | p + 1 => tr.Hh p, fun p => match p with | 0 => false | p + 1 => tr.On p, fun p => match p with | 0 => .tup [] | p + 1 => tr.Vv p⟩, rfl, rfl, a3, a4, ?_, ?_⟩
      · intro p hp
        cases p with
        | zero => exact ⟨hask, fun hx => (by cases hx), fun _ => ⟨rfl, by simp only [a2]⟩, by simp only [a1]; rfl⟩
        | succ p =>
          have := a5 p (by simpa using hp)
          exact ⟨this.asked, this.on, this.off, this.env⟩
      · intro p hp hon
        cases p with
        | zero => cases hon
        | succ p =>
          obtain ⟨b1, b2⟩ := a6 p (by simpa using hp) hon
          refine ⟨b1, fun q hq hq1 a hr hw => ?_⟩
          cases q with
          | zero => cases hq1
          | succ q => exact b2 q (by omega) hq1 a hr hw
    · cases hi

/-! What the operations' kinds say. -/

theorem neutral {T : Tab} {ih : Exec} {e : Env} {h h' : H} {i : I} {v : V} (h1 : i.isE T.K = false) (h2 : i.isA = false) (h3 : i.isL = false) (hi : oper T ih e h i = some (v, h')) :
    h' = h ∧ ∀ h2, oper T ih e h2 i = some (v, h2) := by
  cases i <;> first
    | (simp [I.isE] at h1; done)
    | (simp [I.isA] at h2; done)
    | (simp [I.isL] at h3; done)
    | skip
  case call f l =>
    simp only [oper, callF] at hi ⊢
    split at hi
    · rename_i F hF
      split at hi
      · rename_i hd
        split at hi
        · rename_i r hr
          obtain ⟨rfl, rfl⟩ := Prod.mk.inj (Option.some.inj hi)
          refine ⟨rfl, fun h2 => ?_⟩
          simp [hd, hr]
        · cases hi
      · cases hi
    · rename_i hF; simp [I.isE, hF] at h1
  all_goals
    simp only [oper, iop] at hi ⊢
    repeat' split at hi
    all_goals first
      | (cases hi; done)
      | (obtain ⟨rfl, rfl⟩ := Prod.mk.inj (Option.some.inj hi)
         refine ⟨rfl, fun h2 => ?_⟩
         first | rfl | (simp [*]; done) | (simp_all; done))

theorem lays {P : Program} {m : M} {e : Env} {ρ : Operand → Value} (hρ : ORel P m e ρ) {o : Oper} {i : I} {h h' : H} {v : V} (hA : i.isA = true) (hc : cI P o.type o.op = some i) (hi : iop e h i = some (v, h')) :
    ∃ rc vf, Lays e i rc vf ∧ ∃ s, AllocRun P m rc vf s ∧ execOp ρ o = (do pure (Next.value (← s))) := by
  unfold execOp
  cases hop : o.op with
  | alloc el =>
    rw [hop] at hc
    obtain ⟨l, hl, rfl⟩ := opt_map hc
    exact ⟨.cs l, fun b => .ptr b 0, fun h => rfl, _, alloc_alloc hl, rfl⟩
  | box el x =>
    rw [hop] at hc
    obtain ⟨y, hy, rfl⟩ := opt_map hc
    simp only [iop] at hi
    split at hi
    · rename_i l hl
      exact ⟨.cs l, fun b => .ptr b 0, fun h => by simp only [iop, hl], _, box_alloc (hρ x el y hy) hl, rfl⟩
    · cases hi
  | buildSlice t len parts =>
    rw [hop] at hc
    obtain ⟨rc, vf, h1, h2⟩ := buildSlice_alloc (m := m) hρ hc hi
    have e : (parts.map fun x => (x.1, ρ x.2)) = (parts.toList.map fun x => (x.1, ρ x.2)).toArray := by apply Array.ext'; simp
    rw [← e] at h2
    exact ⟨rc, vf, h1, _, h2, rfl⟩
  | makeSlice t l c =>
    rw [hop] at hc
    obtain ⟨rc, vf, h1, h2⟩ := makeSlice_alloc (m := m) hρ hc hi
    exact ⟨rc, vf, h1, _, h2, rfl⟩
  | convert s d x =>
    dsimp only
    rw [hop] at hc
    simp only [cI, cConv] at hc
    split at hc
    · obtain rfl := Option.some.inj hc; cases hA
    · obtain rfl := Option.some.inj hc; cases hA
    · obtain rfl := Option.some.inj hc; cases hA
    · rename_i e' y h1 h2 hy
      split at hc
      · rename_i hk
        obtain rfl := Option.some.inj hc
        have hr := hρ x s y hy
        have hel : P.underlying e' = some (.int .u8) := by
          unfold iK at hk
          split at hk
          · rename_i k hku; rw [hku]; cases k <;> first | rfl | (simp at hk)
          · simp at hk
        simp only [iop] at hi
        split at hi
        · rename_i l hv
          split at hi
          · rename_i hlen
            rw [hv] at hr
            generalize ρ x = vx at hr ⊢
            cases hr with
            | str s' _ hl => exact ⟨_, _, fun h => by simp only [iop, hv, hlen, if_true], _, s2b_alloc h1 h2 hel hl (by simpa using hlen), rfl⟩
          · cases hi
        · cases hi
      · cases hc
    · split at hc
      · obtain rfl := Option.some.inj hc; cases hA
      · cases hc
    · cases hc
  | call c =>
    rw [hop] at hc
    exfalso
    simp only [cI, cCall] at hc
    split at hc
    · unfold cBuiltin at hc
      repeat' split at hc
      all_goals first
        | (cases hc; done)
        | (obtain rfl := Option.some.inj hc; cases hA)
    · split at hc
      · obtain rfl := Option.some.inj hc; cases hA
      · cases hc
    · split at hc
      · obtain rfl := Option.some.inj hc; cases hA
      · cases hc
    · cases hc
  | makeFunc fn a b =>
    rw [hop] at hc
    exfalso
    cases fn <;> simp only [cI] at hc
    all_goals first
      | (cases hc; done)
      | (split at hc
         · obtain rfl := Option.some.inj hc; cases hA
         · cases hc)
  | _ =>
    rw [hop] at hc
    exfalso
    simp only [cI, cBuild, cLoad, cStore, cBin, cSlice, cFieldAddr, cField, cIndexAddr, cIndex, cMset, cMget, cMakeMap] at hc
    first
      | (cases hc; done)
      | (obtain ⟨_, _, rfl⟩ := opt_map hc; cases hA; done)
      | (repeat' split at hc
         all_goals first
           | (cases hc; done)
           | (obtain rfl := Option.some.inj hc; cases hA))

end Go.AM
