/- THE ABSTRACT MACHINE IS SOUND: what it computes the model's code comes to, whatever is drawn. -/
import Derived.Test.YtgfohimonbagmaaGreatDoorAMDraw4
import Derived.LoopN
namespace Go.AM
open Go.RowKit (Below)

theorem Post.grow {m0 m B h0 h w0 w} {a0 a : Act} {x : X} {e' : Env} {h' : H} {ex a' w'} (hd : a.defers = a0.defers) (g : Grows B m0 m h0 h w0 w) (hp : Post m B h w a x e' h' ex a' w') : Post m0 B h0 w0 a0 x e' h' ex a' w' := by
  obtain ⟨m', h1, h2, h3, h4, h5⟩ := hp
  exact ⟨m', h1, h2, h3.trans hd, h4, g.trans h5⟩

theorem Post.mk' {m0 m B h0 w0} {a0 a : Act} {x : X} {e' : Env} {h' : H} {ex w'} (hx : XRel x ex) (he : EnvRel m e' a.tmps) (hd : a.defers = a0.defers) (hs : Sim m B h' w') (g : Grows B m0 m h0 h' w0 w') : Post m0 B h0 w0 a0 x e' h' ex a w' :=
  ⟨m, hx, he, hd, hs, g⟩

/-- A region that draws no order. -/
theorem reg_sound {P : Program} {T : Tab} {ih : Exec} (hT : TabOK P T) (hih : ExecOK P T.K ih) (hto : ToX ih) {ops : Array Oper} {Q : Exit → Act → World → Prop} {m0 B h0 w0} {df} {e' : Env} {h' : H}
    (hQ : ∀ a' m' w', EnvRel m' e' a'.tmps → a'.defers = df → Sim m' B h' w' → Grows B m0 m' h0 h' w0 w' → Q .normal a' w') :
    ∀ (l : List Nat) (os : List Oper), (l.map fun i => ops[i]?) = os.map some → ∀ (e : Env) (h : H) (m : M) (w : World) (a : Act), opers T ih (os.map (cOper P ops)) e h = some (e', h') → h.Wf → Sim m B h w → Grows B m0 m h0 h w0 w → EnvRel m e a.tmps → a.defers = df →
      wpOps P ops Q l a w
  | [], [], _, e, h, m, w, a, hr, _, hs, hg, he, hd => by
    simp only [List.map_nil, opers] at hr
    obtain ⟨rfl, rfl⟩ := Prod.mk.inj (Option.some.inj hr)
    exact hQ a m w he hd hs hg
  | [], _ :: _, hl, _, _, _, _, _, _, _, _, _, _, _ => by simp at hl
  | _ :: _, [], hl, _, _, _, _, _, _, _, _, _, _, _ => by simp at hl
  | i :: l, o :: os, hl, e, h, m, w, a, hr, hwf, hs, hg, he, hd => by
    simp only [List.map_cons, List.cons.injEq] at hl
    obtain ⟨ho, hl⟩ := hl
    have hput : ∀ v, (a.put o.dst v).defers = df := fun v => by rw [← hd]; cases o.dst <;> rfl
    simp only [List.map_cons, opers] at hr
    simp only [wpOps, ho]
    split at hr
    · rename_i hask
      split at hr
      · rename_i v h1 hop
        have hbad : (cOper P ops o).i ≠ .bad := fun hb => by rw [hb] at hop; simp [oper, iop] at hop
        rw [wanted_asked he hask (fun _ => hbad)]
        simp only [if_true]
        refine .inl (oper_sound hT hih hwf hs he (cOper_spec hop) hop fun m' v' w' r1 s1 g1 => ?_)
        refine reg_sound hT hih hto hQ l os hl _ h1 m' w' _ hr (oper_to hto hop hwf).1 s1 (hg.trans g1) ?_ (hput v')
        rw [cOper_dst]
        exact EnvRel.put (he.mono g1.le) _ r1
      · cases hr
    · rename_i hask
      rw [wanted_asked he hask (fun hx => by cases hx)]
      simp only [Bool.false_eq_true, if_false]
      refine reg_sound hT hih hto hQ l os hl _ h m w _ hr hwf hs hg ?_ (hput undef)
      rw [cOper_dst]
      exact EnvRel.put he _ (rel_tup .nil)
    · cases hr

theorem drawn_sim {m B h} {w : World} (hs : Sim m B h w) : Sim m B h { w with drawn := w.drawn + 1 } :=
  ⟨hs.bound, hs.dom, hs.own, hs.cells, hs.inj, hs.ghost, hs.maps, hs.minj⟩
theorem drawn_grows (B m h) (w : World) : Grows B m m h h w { w with drawn := w.drawn + 1 } :=
  ⟨M.Le.refl m, below_of rfl rfl rfl (Nat.le_refl _) (fun _ _ => rfl), fun _ _ e => ⟨e, rfl⟩, Nat.le_refl _, fun _ hk => .inl hk⟩

theorem range_map (ops : Array Oper) : ((List.range ops.size).map fun i => ops[i]?) = ops.toList.map some := by
  apply List.ext_getElem (by simp)
  intro i h1 h2
  simp at h1
  simp [h1]

theorem planD_cases {K : FuncId → Option (List V → Option V)} {P : Program} {ops : Array Oper} : (∃ ord, okD K P ops ord = true ∧ planD K P ops = .regd (mkD K P ops ord)) ∨ planD K P ops = .bad := by
  unfold planD
  dsimp only
  split
  · exact .inl ⟨_, ‹_›, rfl⟩
  · exact .inr rfl

section
variable {K : FuncId → Option (List V → Option V)} {P : Program}

theorem comp_inv (code : Code) : match comp K P code with
    | .skip => code = .skip ∨ ∃ l, code = .label l
    | .ret => code = .ret
    | .exit id => code = .exit id
    | .reg os => ∃ id ops, code = .region id ops false ∧ os = ops.toList.map (cOper P ops)
    | .regd os => ∃ id ops ord, code = .region id ops true ∧ okD K P ops ord = true ∧ os = mkD K P ops ord
    | .seq x y => ∃ a b, code = .seq a b ∧ comp K P a = x ∧ comp K P b = y
    | .cond o x y => ∃ c a b, code = .cond c a b ∧ cO P 0 c = some o ∧ comp K P a = x ∧ comp K P b = y
    | .block id x => ∃ a, code = .block id a ∧ comp K P a = x
    | .loop x => ∃ a, code = .loop a ∧ comp K P a = x
    | .forget .. => False
    | .bad => True := by
  cases code with
  | skip => exact .inl rfl
  | label l => exact .inr ⟨l, rfl⟩
  | ret => rfl
  | exit id => rfl
  | region id ops dr =>
    cases dr with
    | false => exact ⟨id, ops, rfl, rfl⟩
    | true =>
      simp only [comp]
      rcases planD_cases (K := K) (P := P) (ops := ops) with ⟨ord, h1, h2⟩ | h
      · rw [h2]; exact ⟨id, ops, ord, rfl, h1, rfl⟩
      · rw [h]; trivial
  | seq a b => exact ⟨a, b, rfl, rfl, rfl⟩
  | cond c a b =>
    simp only [comp]
    cases h : cO P 0 c with
    | none => trivial
    | some o => exact ⟨c, a, b, rfl, h, rfl, rfl⟩
  | block id a => exact ⟨a, rfl, rfl⟩
  | loop a => exact ⟨a, rfl, rfl⟩
  | _ => simp only [comp]

end

theorem three_inj {α β γ : Type} {a a' : α} {b b' : β} {c c' : γ} (h : some (a, b, c) = some (a', b', c')) : a = a' ∧ b = b' ∧ c = c' := by
  simpa using h

/-- What an execution's pieces come to, at one level. -/
def PieceOK (P : Program) (K : FuncId → Option (List V → Option V)) (f : Env → H → Option (X × Env × H)) (c : C) : Prop :=
  ∀ e h x e' h', f e h = some (x, e', h') → h.Wf → ∀ code, comp K P code = erase c → ∀ m B w a, Sim m B h w → EnvRel m e a.tmps → code.wp P (Post m B h w a x e' h') a w

theorem XRel.eq_normal {ex : Exit} (h : XRel .normal ex) : ex = .normal := by
  cases ex <;> simp only [XRel] at h <;> rfl

theorem loop_rounds {P : Program} {T : Tab} {c : C} {code : Code} (hcode : comp T.K P code = erase c) : ∀ n, (∀ j, j ≤ n → ExecOK P T.K (exec T j)) → ∀ e h x e' h', exec T n (.loop c) e h = some (x, e', h') → h.Wf →
    ∀ m0 B h0 w0 a0 m w a, Sim m B h w → Grows B m0 m h0 h w0 w → EnvRel m e a.tmps → a.defers = a0.defers → Code.rounds P code (Post m0 B h0 w0 a0 x e' h') n a w
  | 0, _, e, h, x, e', h', hx, _, _, _, _, _, _, _, _, _, _, _, _, _ => by simp [exec] at hx
  | n + 1, hok, e, h, x, e', h', hx, hwf, m0, B, h0, w0, a0, m, w, a, hs, hg, he, hd => by
    rw [rounds_succ]
    have hx' : (match exec T (n + 1) c e h with | some (.normal, e, h) => exec T n (.loop c) e h | r => r) = some (x, e', h') := hx
    split at hx'
    · rename_i e1 h1 hb
      have hto := exec_to T (n + 1) _ _ _ _ _ _ hb hwf
      refine wp_mono (hok (n + 1) (Nat.le_refl _) c e h .normal e1 h1 hb hwf code hcode m B w a hs he) fun ex a1 w1 ⟨m1, g1, g2, g3, g4, g5⟩ => ?_
      obtain rfl := g1.eq_normal
      exact loop_rounds hcode n (fun j hj => hok j (by omega)) e1 h1 x e' h' hx' hto.1 m0 B h0 w0 a0 m1 w1 a1 g4 (hg.trans g5) g2 (g3.trans hd)
    · rename_i hne
      refine wp_mono (hok (n + 1) (Nat.le_refl _) c e h x e' h' hx' hwf code hcode m B w a hs he) fun ex a1 w1 hp => ?_
      have hp' := hp.grow hd hg
      obtain ⟨m1, g1, _⟩ := hp
      cases ex with
      | normal =>
        cases x <;> simp only [XRel] at g1
        exact (hne _ _ hx').elim
      | _ => exact hp'

/-- THE ABSTRACT MACHINE IS SOUND. -/
theorem exec_sound {P : Program} {T : Tab} (hT : TabOK P T) : ∀ n, ∀ j, j ≤ n → ExecOK P T.K (exec T j)
  | 0, j, hj => by
    obtain rfl : j = 0 := by omega
    intro c e h x e' h' hx; simp [exec] at hx
  | n + 1, j, hj => by
    by_cases hjn : j ≤ n
    · exact exec_sound hT n j hjn
    obtain rfl : j = n + 1 := by omega
    have ih := exec_sound hT n
    have ihn := ih n (Nat.le_refl _)
    have hto := exec_to T n
    intro c
    show PieceOK P T.K (exec.go T n (exec T n) c) c
    induction c with
    | skip =>
      intro e h x e' h' hx hwf code hc m B w a hs he
      simp only [exec.go] at hx
      obtain ⟨rfl, rfl, rfl⟩ := three_inj hx
      have := comp_inv (K := T.K) (P := P) code
      rw [hc] at this
      rcases this with rfl | ⟨l, rfl⟩
      · exact wp_skip (Post.mk' trivial he rfl hs (Grows.refl ..))
      · exact wp_label (Post.mk' trivial he rfl hs (Grows.refl ..))
    | ret =>
      intro e h x e' h' hx hwf code hc m B w a hs he
      simp only [exec.go] at hx
      obtain ⟨rfl, rfl, rfl⟩ := three_inj hx
      have := comp_inv (K := T.K) (P := P) code
      rw [hc] at this
      obtain rfl := this
      exact wp_ret (Post.mk' trivial he rfl hs (Grows.refl ..))
    | bad => intro e h x e' h' hx; simp [exec.go] at hx
    | exit id =>
      intro e h x e' h' hx hwf code hc m B w a hs he
      simp only [exec.go] at hx
      obtain ⟨rfl, rfl, rfl⟩ := three_inj hx
      have := comp_inv (K := T.K) (P := P) code
      rw [hc] at this
      obtain rfl := this
      exact wp_exit (Post.mk' rfl he rfl hs (Grows.refl ..))
    | reg os =>
      intro e h x e' h' hx hwf code hc m B w a hs he
      simp only [exec.go] at hx
      split at hx
      · rename_i e1 h1 hr
        obtain ⟨rfl, rfl, rfl⟩ := three_inj hx
        have := comp_inv (K := T.K) (P := P) code
        rw [hc] at this
        obtain ⟨id, ops, rfl, rfl⟩ := this
        exact wp_region (reg_sound hT ihn hto (fun a' m' w' r1 r2 r3 r4 => Post.mk' (x := .normal) (ex := .normal) trivial r1 r2 r3 r4) _ ops.toList (range_map ops) e h m w a hr hwf hs (Grows.refl ..) he rfl)
      · cases hx
    | regd os =>
      intro e h x e' h' hx hwf code hc m B w a hs he
      simp only [exec.go] at hx
      split at hx
      · rename_i e1 h1 hr
        obtain ⟨rfl, rfl, rfl⟩ := three_inj hx
        have := comp_inv (K := T.K) (P := P) code
        rw [hc] at this
        obtain ⟨id, ops, ord, rfl, hok, rfl⟩ := this
        exact wp_region_draw fun t => draw_sound hT ihn hto hok hr hwf (drawn_sim hs) he (fun a' m' w' r1 r2 r3 r4 => Post.mk' (x := .normal) (ex := .normal) trivial r1 r2 r3 ((drawn_grows B m h w).trans r4)) _ t
      · cases hx
    | seq x1 y1 iha ihb =>
      intro e h x e' h' hx hwf code hc m B w a hs he
      simp only [exec.go] at hx
      have := comp_inv (K := T.K) (P := P) code
      rw [hc] at this
      obtain ⟨ca, cb, rfl, h1, h2⟩ := this
      refine wp_seq ?_
      split at hx
      · rename_i e1 hh1 hb
        have hwf1 := (exec_to T (n + 1) x1 e h .normal e1 hh1 hb hwf).1
        refine wp_mono (iha e h _ e1 hh1 hb hwf ca h1 m B w a hs he) fun ex a1 w1 ⟨m1, g1, g2, g3, g4, g5⟩ => ?_
        obtain rfl := g1.eq_normal
        exact wp_mono (ihb e1 hh1 x e' h' hx hwf1 cb h2 m1 B w1 a1 g4 g2) fun ex2 a2 w2 hp => hp.grow g3 g5
      · rename_i hne
        refine wp_mono (iha e h x e' h' hx hwf ca h1 m B w a hs he) fun ex a1 w1 hp => ?_
        cases ex with
        | normal =>
          obtain ⟨m1, g1, _⟩ := hp
          cases x <;> simp only [XRel] at g1
          exact (hne _ _ hx).elim
        | _ => exact hp
    | cond o x1 y1 iha ihb =>
      intro e h x e' h' hx hwf code hc m B w a hs he
      simp only [exec.go] at hx
      have := comp_inv (K := T.K) (P := P) code
      rw [hc] at this
      obtain ⟨cc, ca, cb, rfl, h0, h1, h2⟩ := this
      have hρ := cO_rel (P := P) he cc 0 o h0
      split at hx
      · rename_i hb
        rw [hb] at hρ
        have hv : a.eval cc = .bool true := by generalize a.eval cc = v at hρ; cases hρ; rfl
        exact wp_cond_true hv (iha e h x e' h' hx hwf ca h1 m B w a hs he)
      · rename_i hb
        rw [hb] at hρ
        have hv : a.eval cc = .bool false := by generalize a.eval cc = v at hρ; cases hρ; rfl
        exact wp_cond_false hv (ihb e h x e' h' hx hwf cb h2 m B w a hs he)
      · cases hx
    | block id c ihc =>
      intro e h x e' h' hx hwf code hc m B w a hs he
      simp only [exec.go] at hx
      have := comp_inv (K := T.K) (P := P) code
      rw [hc] at this
      obtain ⟨ca, rfl, h1⟩ := this
      refine wp_block ?_
      split at hx
      · rename_i i1 e1 hh1 hb
        refine wp_mono (ihc e h _ e1 hh1 hb hwf ca h1 m B w a hs he) fun ex a1 w1 ⟨m1, g1, g2, g3, g4, g5⟩ => ?_
        cases ex with
        | exit i2 =>
          simp only [XRel] at g1
          subst g1
          simp only [Exit.inBlock]
          split at hx
          · rename_i hij
            obtain ⟨rfl, rfl, rfl⟩ := three_inj hx
            rw [if_pos (by simpa using hij)]
            exact ⟨m1, trivial, g2, g3, g4, g5⟩
          · rename_i hij
            obtain ⟨rfl, rfl, rfl⟩ := three_inj hx
            rw [if_neg (by simpa using hij)]
            exact ⟨m1, rfl, g2, g3, g4, g5⟩
        | _ => simp only [XRel] at g1
      · rename_i hne
        refine wp_mono (ihc e h x e' h' hx hwf ca h1 m B w a hs he) fun ex a1 w1 hp => ?_
        cases ex with
        | exit i2 =>
          obtain ⟨m1, g1, _⟩ := hp
          cases x <;> simp only [XRel] at g1
          exact (hne _ _ _ hx).elim
        | _ => exact hp
    | loop c ihc =>
      intro e h x e' h' hx hwf code hc m B w a hs he
      have := comp_inv (K := T.K) (P := P) code
      rw [hc] at this
      obtain ⟨ca, rfl, h1⟩ := this
      refine wp_loop_rounds (n + 1) ?_
      rw [rounds_succ]
      simp only [exec.go] at hx
      split at hx
      · rename_i e1 hh1 hb
        have hwf1 := (exec_to T (n + 1) c e h .normal e1 hh1 hb hwf).1
        refine wp_mono (ihc e h _ e1 hh1 hb hwf ca h1 m B w a hs he) fun ex a1 w1 ⟨m1, g1, g2, g3, g4, g5⟩ => ?_
        obtain rfl := g1.eq_normal
        exact loop_rounds h1 n ih e1 hh1 x e' h' hx hwf1 m B h w a m1 w1 a1 g4 g5 g2 g3
      · rename_i hne
        refine wp_mono (ihc e h x e' h' hx hwf ca h1 m B w a hs he) fun ex a1 w1 hp => ?_
        cases ex with
        | normal =>
          obtain ⟨m1, g1, _⟩ := hp
          cases x <;> simp only [XRel] at g1
          exact (hne _ _ hx).elim
        | _ => exact hp
    | forget l c ihc =>
      intro e h x e' h' hx hwf code hc m B w a hs he
      simp only [exec.go] at hx
      exact ihc (e.forget l) h x e' h' hx hwf code hc m B w a hs (he.forget l)

end Go.AM
