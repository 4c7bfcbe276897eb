/- More fuel changes no answer. -/
import Derived.Test.YtgfohimonbagmaaGreatDoorAMDefs
namespace Go.AM

/-- What one answers, the other answers too. -/
def Sub (ih ih' : Exec) : Prop := ∀ c e h r, ih c e h = some r → ih' c e h = some r

theorem enterF_mono {F : Option Fn} {ih ih' : Exec} (hs : Sub ih ih') {args : List V} {h : H} {r : V × H} (e : enterF F ih args h = some r) : enterF F ih' args h = some r := by
  unfold enterF at e ⊢
  split at e
  · rename_i fn
    cases hx : ih fn.body (args ++ List.replicate (fn.ntmps - args.length) .undef) h with
    | none => rw [hx] at e; simp at e
    | some q => rw [hx] at e; rw [hs _ _ _ _ hx]; exact e
  · cases e

theorem callF_mono {T : Tab} {ih ih' : Exec} (hs : Sub ih ih') {f : FuncId} {args : List V} {h : H} {r : V × H} (e : callF T ih f args h = some r) : callF T ih' f args h = some r := by
  unfold callF at e ⊢
  split at e
  · exact e
  · split at e
    · exact e
    · exact enterF_mono hs e

theorem oper_mono {T : Tab} {ih ih' : Exec} (hs : Sub ih ih') {e : Env} {h : H} {i : I} {r : V × H} (hi : oper T ih e h i = some r) : oper T ih' e h i = some r := by
  unfold oper at hi ⊢
  split at hi
  · exact callF_mono hs hi
  · split at hi
    · exact callF_mono hs hi
    · cases hi
  · exact hi

theorem opers_mono {T : Tab} {ih ih' : Exec} (hs : Sub ih ih') : ∀ {l : List Op} {e : Env} {h : H} {r}, opers T ih l e h = some r → opers T ih' l e h = some r
  | [], e, h, r, hi => hi
  | o :: l, e, h, r, hi => by
    simp only [opers] at hi ⊢
    split at hi
    · rename_i ha
      split at hi
      · rename_i v h1 ho
        rw [oper_mono hs ho]
        exact opers_mono hs hi
      · cases hi
    · rename_i ha
      exact opers_mono hs hi
    · cases hi

theorem opersD_mono {T : Tab} {ih ih' : Exec} (hs : Sub ih ih') : ∀ {l : List OpD} {s : Seen} {e : Env} {h : H} {r}, opersD T ih l s e h = some r → opersD T ih' l s e h = some r
  | [], s, e, h, r, hi => hi
  | o :: l, s, e, h, r, hi => by
    simp only [opersD] at hi ⊢
    split at hi
    · rename_i ha
      split at hi
      · rename_i v h1 ho
        rw [oper_mono hs ho]
        dsimp only
        split at hi
        · rename_i hf
          rw [if_pos hf]
          exact opersD_mono hs hi
        · cases hi
      · cases hi
    · rename_i ha
      exact opersD_mono hs hi
    · cases hi

theorem go_mono {T : Tab} {n m : Nat} {ih ih' : Exec} (hs : Sub ih ih') : ∀ c, ∀ e h r, exec.go T n ih c e h = some r → exec.go T m ih' c e h = some r := by
  intro c
  induction c with
  | reg ops =>
    intro e h r hi
    simp only [exec.go] at hi ⊢
    split at hi
    · rename_i ho
      rw [opers_mono hs ho]; exact hi
    · cases hi
  | regd ops =>
    intro e h r hi
    simp only [exec.go] at hi ⊢
    split at hi
    · rename_i ho
      rw [opersD_mono hs ho]; exact hi
    · cases hi
  | seq a b iha ihb =>
    intro e h r hi
    simp only [exec.go] at hi ⊢
    cases ha : exec.go T n ih a e h with
    | none => rw [ha] at hi; simp at hi
    | some q =>
      rw [ha] at hi; rw [iha _ _ _ ha]
      obtain ⟨x, e1, h1⟩ := q
      cases x with
      | normal => exact ihb _ _ _ hi
      | _ => exact hi
  | cond o a b iha ihb =>
    intro e h r hi
    simp only [exec.go] at hi ⊢
    split at hi
    · exact iha _ _ _ hi
    · exact ihb _ _ _ hi
    · cases hi
  | block id c ihc =>
    intro e h r hi
    simp only [exec.go] at hi ⊢
    cases ha : exec.go T n ih c e h with
    | none => rw [ha] at hi; simp at hi
    | some q => rw [ha] at hi; rw [ihc _ _ _ ha]; exact hi
  | loop c ihc =>
    intro e h r hi
    simp only [exec.go] at hi ⊢
    cases ha : exec.go T n ih c e h with
    | none => rw [ha] at hi; simp at hi
    | some q =>
      rw [ha] at hi; rw [ihc _ _ _ ha]
      obtain ⟨x, e1, h1⟩ := q
      cases x with
      | normal => exact hs _ _ _ _ hi
      | _ => exact hi
  | forget l c ihc => intro e h r hi; simp only [exec.go] at hi ⊢; exact ihc _ _ _ hi
  | _ => intro e h r hi; simp only [exec.go] at hi ⊢; exact hi

theorem exec_succ (T : Tab) : ∀ n, Sub (exec T n) (exec T (n + 1))
  | 0 => fun c e h r hi => by simp [exec] at hi
  | n + 1 => fun c e h r hi => go_mono (T := T) (n := n) (m := n + 1) (exec_succ T n) c e h r hi

theorem exec_mono (T : Tab) {n m : Nat} (h : n ≤ m) : Sub (exec T n) (exec T m) := by
  induction m with
  | zero => obtain rfl : n = 0 := by omega
            exact fun c e h r hi => hi
  | succ m ih =>
    by_cases hn : n ≤ m
    · exact fun c e h r hi => exec_succ T m c e h r (ih hn c e h r hi)
    · obtain rfl : n = m + 1 := by omega
      exact fun c e h r hi => hi

end Go.AM
