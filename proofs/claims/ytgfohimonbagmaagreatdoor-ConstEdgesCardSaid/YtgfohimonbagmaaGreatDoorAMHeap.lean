/- The abstract heap's versions: what an operation, a call, a piece of code does to rows. No model here. -/
import Derived.Test.YtgfohimonbagmaaGreatDoorAMDefs
namespace Go.AM

/-- No row bears a version that is still to come. -/
def H.Wf (h : H) : Prop := ∀ b r, h.row b = some r → r.ver < h.clk
/-- A row is as it was, or bears a new version. -/
structure H.Le (h h' : H) : Prop where
  clk : h.clk ≤ h'.clk
  row : ∀ b r, h'.row b = some r → h.row b = some r ∨ h.clk ≤ r.ver
  len : h.rows.length ≤ h'.rows.length

theorem H.Le.refl (h : H) : h.Le h := ⟨Nat.le_refl _, fun _ _ e => .inl e, Nat.le_refl _⟩
theorem H.Le.trans {a b c : H} (h : a.Le b) (k : b.Le c) : a.Le c :=
  ⟨Nat.le_trans h.clk k.clk, fun x r e => by
    rcases k.row x r e with e | e
    · exact h.row x r e
    · exact .inr (Nat.le_trans h.clk e), Nat.le_trans h.len k.len⟩

/-- A step of the heap. -/
def H.To (h h' : H) : Prop := h.Wf → h'.Wf ∧ h.Le h'
theorem H.To.refl (h : H) : h.To h := fun w => ⟨w, H.Le.refl h⟩
theorem H.To.trans {a b c : H} (h : a.To b) (k : b.To c) : a.To c := fun w =>
  let ⟨w1, l1⟩ := h w
  let ⟨w2, l2⟩ := k w1
  ⟨w2, l1.trans l2⟩

theorem H.to_put (h : H) (b : Nat) (c : RC) : h.To (h.put b c) := by
  intro wf
  have key : ∀ b' r, (h.put b c).row b' = some r → h.row b' = some r ∨ r.ver = h.clk := by
    intro b' r e
    unfold H.row H.put at e
    simp only [List.getElem?_set] at e
    split at e
    · rename_i r0 h0
      split at h0
      · split at h0
        · obtain rfl := Option.some.inj h0
          simp at e; subst e; exact .inr rfl
        · cases h0
      · refine .inl ?_
        unfold H.row; rw [h0]; exact e
    · cases e
  refine ⟨fun b' r e => ?_, ⟨Nat.le_succ _, fun b' r e => ?_, by simp [H.put, H.new]⟩⟩
  · rcases key b' r e with e | e
    · exact Nat.lt_succ_of_lt (wf b' r e)
    · rw [e]; exact Nat.lt_succ_self _
  · rcases key b' r e with e | e
    · exact .inl e
    · exact .inr (Nat.le_of_eq e.symm)

theorem H.to_new (h : H) (c : RC) : h.To (h.new c) := by
  intro wf
  have key : ∀ b' r, (h.new c).row b' = some r → h.row b' = some r ∨ r.ver = h.clk := by
    intro b' r e
    unfold H.row H.new at e
    simp only [List.getElem?_append] at e
    split at e
    · rename_i r0 h0
      split at h0
      · refine .inl ?_
        unfold H.row; rw [h0]; exact e
      · obtain ⟨hl, h1⟩ := List.getElem?_eq_some_iff.1 h0
        have : b' - h.rows.length = 0 := by simp at hl; omega
        simp only [this, List.getElem_cons_zero] at h1
        subst h1
        simp at e; subst e; exact .inr rfl
    · cases e
  refine ⟨fun b' r e => ?_, ⟨Nat.le_succ _, fun b' r e => ?_, by simp [H.put, H.new]⟩⟩
  · rcases key b' r e with e | e
    · exact Nat.lt_succ_of_lt (wf b' r e)
    · rw [e]; exact Nat.lt_succ_self _
  · rcases key b' r e with e | e
    · exact .inl e
    · exact .inr (Nat.le_of_eq e.symm)

theorem H.to_kill (h : H) (b : Nat) : h.To (h.kill b) := by
  intro wf
  have key : ∀ b' r, (h.kill b).row b' = some r → h.row b' = some r := by
    intro b' r e
    unfold H.row H.kill at e
    simp only [List.getElem?_set] at e
    split at e
    · rename_i r0 h0
      split at h0
      · split at h0
        · obtain rfl := Option.some.inj h0
          simp at e
        · cases h0
      · unfold H.row; rw [h0]; exact e
    · cases e
  exact ⟨fun b' r e => Nat.lt_succ_of_lt (wf b' r (key b' r e)), ⟨Nat.le_succ _, fun b' r e => .inl (key b' r e), by simp [H.kill]⟩⟩

/-- A version that is the same is the same row. -/
theorem same_row {h h' : H} (wf : h.Wf) (le : h.Le h') {b : Nat} {r r' : Row} (e : h.row b = some r) (e' : h'.row b = some r') (hv : r.ver = r'.ver) : r = r' := by
  rcases le.row b r' e' with e2 | e2
  · rw [e] at e2; exact Option.some.inj e2
  · have := wf b r e; omega

theorem H.to_maps (h : H) (l : List (List (V × V))) : h.To ⟨h.rows, h.clk, l⟩ := fun wf => ⟨wf, ⟨Nat.le_refl _, fun _ _ e => .inl e, Nat.le_refl _⟩⟩

theorem msetV_to {h h' : H} {kt : KT} {m k x : V} (e : msetV h kt m k x = some h') : h.To h' := by
  unfold msetV at e
  repeat' split at e
  all_goals first
    | (cases e; done)
    | (obtain rfl := Option.some.inj e; exact H.to_maps _ _)

theorem storeV_to {h h' : H} {n : Nat} {a x : V} (e : storeV h n a x = some h') : h.To h' := by
  unfold storeV at e
  split at e
  · split at e
    · split at e
      · split at e
        · obtain rfl := Option.some.inj e; exact H.to_put _ _ _
        · cases e
      · cases e
    · cases e
  · cases e

theorem appRow_to {h h' : H} {sz bytes b o m n : Nat} {cap : Option Nat} {xs ys : RC} {v : V} (e : appRow h sz bytes b o m cap xs ys n = some (v, h')) : h.To h' := by
  unfold appRow at e
  repeat' split at e
  all_goals first
    | (cases e; done)
    | (obtain ⟨_, rfl⟩ := Prod.mk.inj (Option.some.inj e); exact H.to_put _ _ _)
    | (obtain ⟨_, rfl⟩ := Prod.mk.inj (Option.some.inj e); exact H.to_new _ _)
    | (obtain ⟨_, rfl⟩ := Prod.mk.inj (Option.some.inj e); exact H.To.trans (H.to_kill _ _) (H.to_new _ _))

theorem appendV_to {h h' : H} {sz bytes : Nat} {x y v : V} (e : appendV h sz bytes x y = some (v, h')) : h.To h' := by
  unfold appendV at e
  repeat' split at e
  all_goals first
    | (cases e; done)
    | exact appRow_to e
    | (obtain ⟨_, rfl⟩ := Prod.mk.inj (Option.some.inj e); exact H.To.refl _)
    | (obtain ⟨_, rfl⟩ := Prod.mk.inj (Option.some.inj e); exact H.to_new _ _)

theorem copyV_to {h h' : H} {sz : Nat} {x y v : V} (e : copyV h sz x y = some (v, h')) : h.To h' := by
  unfold copyV at e
  dsimp only at e
  repeat' split at e
  all_goals first
    | (cases e; done)
    | (obtain ⟨_, rfl⟩ := Prod.mk.inj (Option.some.inj e); exact H.to_put _ _ _)

theorem iop_to {e : Env} {h h' : H} {i : I} {v : V} (hi : iop e h i = some (v, h')) : h.To h' := by
  cases i <;> simp only [iop] at hi
  case store n a x =>
    split at hi
    · rename_i h1 hh
      obtain ⟨_, rfl⟩ := Prod.mk.inj (Option.some.inj hi); exact storeV_to hh
    · cases hi
  case append => exact appendV_to hi
  case copy => exact copyV_to hi
  case mkmap => obtain ⟨_, rfl⟩ := Prod.mk.inj (Option.some.inj hi); exact H.to_maps _ _
  case mset =>
    split at hi
    · rename_i h1 hh
      obtain ⟨_, rfl⟩ := Prod.mk.inj (Option.some.inj hi); exact msetV_to hh
    · cases hi
  all_goals
    repeat' split at hi
    all_goals first
      | (cases hi; done)
      | (obtain ⟨_, rfl⟩ := Prod.mk.inj (Option.some.inj hi); exact H.To.refl _)
      | (obtain ⟨_, rfl⟩ := Prod.mk.inj (Option.some.inj hi); exact H.to_new _ _)

/-- What code does to the heap. -/
def ToX (ih : Exec) : Prop := ∀ c e h x e' h', ih c e h = some (x, e', h') → h.To h'

theorem enterF_to {F : Option Fn} {ih : Exec} (hx : ToX ih) {args : List V} {h h' : H} {v : V} (e : enterF F ih args h = some (v, h')) : h.To h' := by
  unfold enterF at e
  split at e
  · split at e
    · rename_i hh
      split at e
      · obtain ⟨_, rfl⟩ := Prod.mk.inj (Option.some.inj e); exact hx _ _ _ _ _ _ hh
      · cases e
    · rename_i hh
      split at e
      · obtain ⟨_, rfl⟩ := Prod.mk.inj (Option.some.inj e); exact hx _ _ _ _ _ _ hh
      · cases e
    · cases e
  · cases e

theorem callF_to {T : Tab} {ih : Exec} (hx : ToX ih) {f : FuncId} {args : List V} {h h' : H} {v : V} (e : callF T ih f args h = some (v, h')) : h.To h' := by
  unfold callF at e
  split at e
  · split at e
    · split at e
      · obtain ⟨_, rfl⟩ := Prod.mk.inj (Option.some.inj e); exact H.To.refl _
      · cases e
    · cases e
  · split at e
    · obtain ⟨_, rfl⟩ := Prod.mk.inj (Option.some.inj e); exact H.To.refl _
    · exact enterF_to hx e

theorem oper_to {T : Tab} {ih : Exec} (hx : ToX ih) {e : Env} {h h' : H} {i : I} {v : V} (hi : oper T ih e h i = some (v, h')) : h.To h' := by
  unfold oper at hi
  split at hi
  · exact callF_to hx hi
  · split at hi
    · exact callF_to hx hi
    · cases hi
  · exact iop_to hi

theorem opers_to {T : Tab} {ih : Exec} (hx : ToX ih) : ∀ {l : List Op} {e : Env} {h : H} {e' h'}, opers T ih l e h = some (e', h') → h.To h'
  | [], e, h, e', h', hi => by
    simp only [opers] at hi
    obtain ⟨_, rfl⟩ := Prod.mk.inj (Option.some.inj hi); exact H.To.refl _
  | o :: r, e, h, e', h', hi => by
    simp only [opers] at hi
    split at hi
    · split at hi
      · rename_i v h1 ho
        exact (oper_to hx ho).trans (opers_to hx hi)
      · cases hi
    · exact opers_to hx hi
    · cases hi

theorem opersD_to {T : Tab} {ih : Exec} (hx : ToX ih) : ∀ {l : List OpD} {s : Seen} {e : Env} {h : H} {e' h'}, opersD T ih l s e h = some (e', h') → h.To h'
  | [], s, e, h, e', h', hi => by
    simp only [opersD] at hi
    obtain ⟨_, rfl⟩ := Prod.mk.inj (Option.some.inj hi); exact H.To.refl _
  | o :: r, s, e, h, e', h', hi => by
    simp only [opersD] at hi
    split at hi
    · split at hi
      · rename_i v h1 ho
        split at hi
        · exact (oper_to hx ho).trans (opersD_to hx hi)
        · cases hi
      · cases hi
    · exact opersD_to hx hi
    · cases hi

theorem exec_to (T : Tab) : ∀ n, ToX (exec T n)
  | 0 => fun c e h x e' h' hi => by simp [exec] at hi
  | n + 1 => by
    have ih := exec_to T n
    intro c
    show ∀ e h x e' h', exec.go T n (exec T n) c e h = some (x, e', h') → h.To h'
    induction c with
    | skip => intro e h x e' h' hi; simp only [exec.go] at hi; obtain ⟨_, _, rfl⟩ := Prod.mk.inj (Option.some.inj hi) |>.imp id Prod.mk.inj; exact H.To.refl _
    | ret => intro e h x e' h' hi; simp only [exec.go] at hi; obtain ⟨_, _, rfl⟩ := Prod.mk.inj (Option.some.inj hi) |>.imp id Prod.mk.inj; exact H.To.refl _
    | bad => intro e h x e' h' hi; simp [exec.go] at hi
    | exit j => intro e h x e' h' hi; simp only [exec.go] at hi; obtain ⟨_, _, rfl⟩ := Prod.mk.inj (Option.some.inj hi) |>.imp id Prod.mk.inj; exact H.To.refl _
    | reg ops =>
      intro e h x e' h' hi; simp only [exec.go] at hi
      split at hi
      · rename_i ho
        obtain ⟨_, _, rfl⟩ := Prod.mk.inj (Option.some.inj hi) |>.imp id Prod.mk.inj
        exact opers_to ih ho
      · cases hi
    | regd ops =>
      intro e h x e' h' hi; simp only [exec.go] at hi
      split at hi
      · rename_i ho
        obtain ⟨_, _, rfl⟩ := Prod.mk.inj (Option.some.inj hi) |>.imp id Prod.mk.inj
        exact opersD_to ih ho
      · cases hi
    | seq a b iha ihb =>
      intro e h x e' h' hi; simp only [exec.go] at hi
      split at hi
      · rename_i ho
        exact (iha _ _ _ _ _ ho).trans (ihb _ _ _ _ _ hi)
      · exact iha _ _ _ _ _ hi
    | cond o a b iha ihb =>
      intro e h x e' h' hi; simp only [exec.go] at hi
      split at hi
      · exact iha _ _ _ _ _ hi
      · exact ihb _ _ _ _ _ hi
      · cases hi
    | block j c ihc =>
      intro e h x e' h' hi; simp only [exec.go] at hi
      split at hi
      · rename_i ho
        split at hi
        · obtain ⟨_, _, rfl⟩ := Prod.mk.inj (Option.some.inj hi) |>.imp id Prod.mk.inj
          exact ihc _ _ _ _ _ ho
        · obtain ⟨_, _, rfl⟩ := Prod.mk.inj (Option.some.inj hi) |>.imp id Prod.mk.inj
          exact ihc _ _ _ _ _ ho
      · exact ihc _ _ _ _ _ hi
    | loop c ihc =>
      intro e h x e' h' hi; simp only [exec.go] at hi
      split at hi
      · rename_i ho
        exact (ihc _ _ _ _ _ ho).trans (ih _ _ _ _ _ _ hi)
      · exact ihc _ _ _ _ _ hi
    | forget l c ihc =>
      intro e h x e' h' hi; simp only [exec.go] at hi
      exact ihc _ _ _ _ _ hi

/-! What an operation's answer hangs on. -/

def O.uses : O → List Nat
  | .t i => [i]
  | .c _ => []
def usesL : List O → List Nat
  | [] => []
  | x :: r => x.uses ++ usesL r
def usesP : List (Nat × Nat × O) → List Nat
  | [] => []
  | (_, _, x) :: r => x.uses ++ usesP r
def usesO : Option O → List Nat
  | none => []
  | some x => x.uses

def I.uses : I → List Nat
  | .mv x | .nilchk x | .box x | .load _ _ x | .faddr _ x | .field _ _ _ x | .un _ x | .toInt _ x | .toFlt _ x | .same x | .s2b x | .b2s x | .lenS x | .len x | .cap x | .ext _ x | .mlen x => x.uses
  | .pick a b c | .mset _ a b c => a.uses ++ b.uses ++ c.uses
  | .alloc .. | .mkmap | .bad => []
  | .build _ ps | .bslice _ _ _ _ ps => usesP ps
  | .store _ x y | .iaddrS _ x y | .iaddrA _ _ x y | .idxS x y | .idxA _ _ _ x y | .mksl _ _ _ _ x y | .bin _ _ x y | .append _ _ x y | .copy _ x y | .mget _ _ _ x y => x.uses ++ y.uses
  | .slS x a b => x.uses ++ usesO a ++ usesO b
  | .slL _ _ x a b c => x.uses ++ usesO a ++ usesO b ++ usesO c
  | .min l | .max l | .call _ l => usesL l
  | .callv x l => x.uses ++ usesL l
  | .mkf _ a b => usesL a ++ usesL b

/-- Two environments that agree on slots. -/
def Agree (e e' : Env) (l : List Nat) : Prop := ∀ t ∈ l, e.get t = e'.get t

theorem Agree.left {e e' : Env} {a b : List Nat} (h : Agree e e' (a ++ b)) : Agree e e' a := fun t ht => h t (List.mem_append_left _ ht)
theorem Agree.right {e e' : Env} {a b : List Nat} (h : Agree e e' (a ++ b)) : Agree e e' b := fun t ht => h t (List.mem_append_right _ ht)

theorem ev_agree {e e' : Env} {x : O} (h : Agree e e' x.uses) : ev e x = ev e' x := by
  cases x with
  | t i => exact h i (by simp [O.uses])
  | c v => rfl

theorem evs_agree {e e' : Env} : ∀ {l : List O}, Agree e e' (usesL l) → evs e l = evs e' l
  | [], _ => rfl
  | x :: r, h => by simp only [evs]; rw [ev_agree h.left, evs_agree h.right]

theorem fill_agree {e e' : Env} : ∀ {ps : List (Nat × Nat × O)} {zs : List V}, Agree e e' (usesP ps) → fill e zs ps = fill e' zs ps
  | [], zs, _ => rfl
  | (a, b, x) :: r, zs, h => by
    simp only [fill]
    rw [ev_agree (x := x) h.left]
    split
    · split
      · exact fill_agree h.right
      · rfl
    · rfl

theorem bounds_agree {e e' : Env} {n c : Nat} {lo hi mx : Option O} (h1 : Agree e e' (usesO lo)) (h2 : Agree e e' (usesO hi)) (h3 : Agree e e' (usesO mx)) : bounds e n c lo hi mx = bounds e' n c lo hi mx := by
  have key : ∀ {x : Option O}, Agree e e' (usesO x) → ∀ y, x = some y → ev e y = ev e' y := by
    intro x hx y e1
    subst e1
    exact ev_agree hx
  unfold bounds
  cases mx with
  | none => cases hi with
    | none => cases lo with
      | none => rfl
      | some l => simp only [key h1 l rfl]
    | some hh => cases lo with
      | none => simp only [key h2 hh rfl]
      | some l => simp only [key h1 l rfl, key h2 hh rfl]
  | some mm => cases hi with
    | none => cases lo with
      | none => simp only [key h3 mm rfl]
      | some l => simp only [key h3 mm rfl]
    | some hh => cases lo with
      | none => simp only [key h3 mm rfl, key h2 hh rfl]
      | some l => simp only [key h3 mm rfl, key h2 hh rfl, key h1 l rfl]

theorem sliceV_agree {ik : Option IntKind} {sz : Nat} {e e' : Env} {x : V} {lo hi mx : Option O} (h1 : Agree e e' (usesO lo)) (h2 : Agree e e' (usesO hi)) (h3 : Agree e e' (usesO mx)) : sliceV ik sz e x lo hi mx = sliceV ik sz e' x lo hi mx := by
  unfold sliceV
  simp only [bounds_agree h1 h2 h3]

theorem iop_agree {e e' : Env} {h : H} {i : I} (ha : Agree e e' i.uses) : iop e h i = iop e' h i := by
  cases i <;> simp only [I.uses] at ha <;> simp only [iop]
  case slL ik sz x a b c => rw [ev_agree (x := x) ha.left.left.left, sliceV_agree ha.left.left.right ha.left.right ha.right]
  case slS x a b =>
    rw [ev_agree (x := x) ha.left.left]
    have h0 : Agree e e' (usesO none) := fun t ht => by cases ht
    simp only [bounds_agree (n := _) (c := _) ha.left.right ha.right h0]
  case mset kt a b c => rw [ev_agree (x := a) ha.left.left, ev_agree (x := b) ha.left.right, ev_agree (x := c) ha.right]
  case pick a b c => rw [ev_agree (x := a) ha.left.left, ev_agree (x := b) ha.left.right, ev_agree (x := c) ha.right]
  case build zs ps => rw [fill_agree ha]
  case bslice sz n zs k ps => rw [fill_agree ha]
  case min l => rw [evs_agree ha]
  case max l => rw [evs_agree ha]
  case mkf f a b => rw [evs_agree ha.left, evs_agree ha.right]
  all_goals first
    | rfl
    | (rw [ev_agree ha]; done)
    | (rename_i x y; rw [ev_agree (x := x) ha.left, ev_agree (x := y) ha.right]; done)

theorem oper_agree {T : Tab} {ih : Exec} {e e' : Env} {h : H} {i : I} (ha : Agree e e' i.uses) : oper T ih e h i = oper T ih e' h i := by
  cases i
  case call f l => simp only [I.uses] at ha; simp only [oper]; rw [evs_agree ha]
  case callv x l => simp only [I.uses] at ha; simp only [oper]; rw [ev_agree (x := x) ha.left, evs_agree ha.right]
  all_goals exact iop_agree (h := h) ha

end Go.AM
