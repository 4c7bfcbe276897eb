/- Every operation that does not call. -/
import Derived.Test.YtgfohimonbagmaaGreatDoorAMMap
namespace Go.AM
open Go.RowKit (Below)

theorem Fin.of {P : Program} {m : M} {B h h' w} {v : V} {s : Sem Value} (h0 : ∃ m' v' w', s.run P w = .ok v' w' ∧ Rel m' v v' ∧ Sim m' B h' w' ∧ Grows B m m' h h' w w') :
    Fin P m B h h' w v (do pure (Next.value (← s))) := by
  obtain ⟨m', v', w', h1, h2, h3, h4⟩ := h0
  exact Fin.value h1 h2 h3 h4

theorem Fin.stay {P : Program} {m : M} {B h w} {v : V} {s : Sem Value} (hs : Sim m B h w) (h0 : ∃ v', s.run P w = .ok v' w ∧ Rel m v v') :
    Fin P m B h h w v (do pure (Next.value (← s))) := by
  obtain ⟨v', h1, h2⟩ := h0
  exact Fin.still hs h1 h2

theorem opt_map {α β : Type} {x : Option α} {f : α → β} {y : β} (h : x.map f = some y) : ∃ z, x = some z ∧ f z = y := by
  cases x with
  | none => simp at h
  | some z => exact ⟨z, rfl, by simpa using h⟩

theorem arr1 {α : Type} {a : Array α} {x : α} (h : a.toList = [x]) : a = #[x] := by apply Array.ext'; simpa using h
theorem arr2 {α : Type} {a : Array α} {x y : α} (h : a.toList = [x, y]) : a = #[x, y] := by apply Array.ext'; simpa using h

theorem invoke_builtin {ρ : Operand → Value} {c : Call} {ty : TypeId} {b : Builtin} (hb : c.callee = .builtin b) :
    ∃ consts, (do let d ← resolve ρ c ty; invoke d.target d.args : Sem Next) = builtin b c.argTypes ty consts (c.args.map ρ) := by
  unfold resolve
  rw [hb]
  exact ⟨_, rfl⟩

theorem run_min_eq {P : Program} {w : World} {l : List Value} {x : Value} {ts : Array TypeId} {ty : TypeId} {a : Array Value} (ha : a.toList = x :: l) : (Builtin.min_ ts ty a).run P w = (l.foldlM Builtin.min2 x).run P w := by
  unfold Builtin.min_; rw [ha]
theorem run_max_eq {P : Program} {w : World} {l : List Value} {x : Value} {ts : Array TypeId} {ty : TypeId} {a : Array Value} (ha : a.toList = x :: l) : (Builtin.max_ ts ty a).run P w = (l.foldlM Builtin.max2 x).run P w := by
  unfold Builtin.max_; rw [ha]

theorem foldl_push : ∀ (ns : List Int) (s : ByteArray), (ns.foldl (fun r n => r.push (UInt8.ofNat n.toNat)) s).data.toList.map (·.toNat) = s.data.toList.map (·.toNat) ++ ns.map fun n => n.toNat % 256
  | [], s => by simp
  | n :: ns, s => by
    rw [List.foldl_cons, foldl_push ns]
    simp [ByteArray.data_push]

theorem b2s_sound {P : Program} {m : M} {B h w} (hs : Sim m B h w) {src dst el : TypeId} {x : V} {vx : Value} {zs : List Int} {n : Nat} (h1 : P.underlying src = some (.slice el)) (h2 : P.underlying dst = some .string) (hel : P.underlying el = some (.int .u8))
    (hx : Rel m x vx) (he : elems h 1 x = some (.is .u8 zs)) (hn : lenV x = some n) (hsz : zs.length = n) :
    ∃ v', (convert src dst vx).run P w = .ok v' w ∧ Rel m (.str (zs.map fun z => z.toNat % 256)) v' := by
  obtain ⟨arr, harr, hrel⟩ := elems_sound (P := P) hs hx he hn (Nat.le_refl n) (by simp [RC.size, hsz])
  rw [List.take_of_length_le (by rw [RC.size_toL]; simp [RC.size, hsz])] at hrel
  have harr' : arr = (zs.map (Value.int .u8)).toArray := by
    apply Array.ext'
    apply List.ext_getElem
    · have := hrel.length; simp [RC.toL] at this ⊢; omega
    · intro j g1 g2
      have h3 : j < (RC.toL (.is .u8 zs)).length := by rw [hrel.length]; exact g1
      have := hrel.get j h3 g1
      simp only [RC.toL, List.getElem_map] at this
      generalize hg : arr.toList[j] = v at this
      cases this
      simp
  rcases lenV_shape hx hn with ⟨s, rfl, _⟩ | ⟨a, c, rfl, _⟩
  · cases hx with
    | str _ l hl =>
      refine ⟨.string s, by simp [convert, run_underlying h1, run_underlying h2], ?_⟩
      simp only [elems, beq_self_eq_true, if_true, Option.some.injEq, RC.is.injEq, true_and] at he
      subst he
      refine .str _ _ ?_
      rw [← hl]
      simp only [List.map_map]
      apply List.map_congr_left
      intro b _
      have := b.toNat_lt
      simp
    | undef => simp [lenV] at hn
  · have hconv : (convert src dst (.slice a n c)).run P w = (Conv.bytesToString (.slice a n c)).run P w := by
      cases a <;> simp [convert, run_underlying h1, run_underlying h2, run_underlying hel]
    rw [hconv]
    cases a with
    | none =>
      refine ⟨.string .empty, by simp [Conv.bytesToString], .str _ _ ?_⟩
      simp [Builtin.firstCells] at harr
      have : zs = [] := by
        have h0 : arr.size = 0 := by rw [harr]; rfl
        rw [harr'] at h0; simpa using h0
      subst this; rfl
    | some a =>
      refine ⟨_, run_bytesToString w a n c zs (by simp only [Builtin.firstCells, Nat.mul_one] at harr; rw [harr, harr']), .str _ _ ?_⟩
      rw [foldl_push]
      rfl

theorem builtin_sound {P : Program} {m : M} {B h h' w} {e : Env} {ρ : Operand → Value} (hρ : ORel P m e ρ) (hs : Sim m B h w) {c : Call} {ty : TypeId} {b : Builtin} {i : I} {v : V}
    (hb : c.callee = .builtin b) (hc : cBuiltin P b c.argTypes.toList c.args.toList = some i) (hi : iop e h i = some (v, h')) :
    Fin P m B h h' w v (do let d ← resolve ρ c ty; invoke d.target d.args) := by
  obtain ⟨consts, hcon⟩ := invoke_builtin (ρ := ρ) (ty := ty) hb
  rw [hcon]
  unfold cBuiltin at hc
  split at hc
  · -- len
    rename_i t x ht hx
    rw [arr1 ht, arr1 hx, show (#[x] : Array Operand).map ρ = #[ρ x] by simp]
    show Fin P m B h h' w v (do Pure.pure (Next.value (← Builtin.len_ #[t] ty #[ρ x])))
    split at hc
    · rename_i y hu hy
      obtain rfl := Option.some.inj hc
      simp only [iop] at hi
      have hr := hρ x t y hy
      split at hi
      · rename_i l hl
        obtain ⟨rfl, rfl⟩ : V.int .i64 l.length = v ∧ h = h' := by simpa using hi
        rw [hl] at hr
        generalize ρ x = vx at hr ⊢
        cases hr with
        | str s _ e =>
          refine Fin.still hs ?_ (.int _ _)
          simp [Builtin.len_, run_underlying hu, goInt, ← e]
      · cases hi
    · rename_i y hu hy
      obtain rfl := Option.some.inj hc
      simp only [iop] at hi
      have hr := hρ x t y hy
      have key : ∀ a n c, (Builtin.len_ #[t] ty #[.slice a n c]).run P w = .ok (.int .i64 n) w := fun a n c => by
        simp [Builtin.len_, run_underlying hu, goInt]
      split at hi
      · rename_i hl
        obtain ⟨rfl, rfl⟩ := Prod.mk.inj (Option.some.inj hi)
        rw [hl] at hr
        generalize ρ x = vx at hr ⊢
        cases hr
        exact Fin.still hs (key _ _ _) (.int _ _)
      · rename_i hl
        obtain ⟨rfl, rfl⟩ := Prod.mk.inj (Option.some.inj hi)
        rw [hl] at hr
        generalize ρ x = vx at hr ⊢
        cases hr <;> exact Fin.still hs (key _ _ _) (.int _ _)
      · rename_i hl
        obtain ⟨rfl, rfl⟩ := Prod.mk.inj (Option.some.inj hi)
        rw [hl] at hr
        generalize ρ x = vx at hr ⊢
        cases hr <;> exact Fin.still hs (key _ _ _) (.int _ _)
      · cases hi
    · rename_i hu hy
      obtain rfl := Option.some.inj hc
      simp only [iop] at hi
      split at hi
      · rename_i l hl
        obtain ⟨rfl, rfl⟩ := Prod.mk.inj (Option.some.inj hi)
        exact Fin.stay hs (mlen_sound hs hu (hρ x t _ hy) hl)
      · cases hi
    · cases hc
  · -- cap
    rename_i t x ht hx
    rw [arr1 ht, arr1 hx, show (#[x] : Array Operand).map ρ = #[ρ x] by simp]
    show Fin P m B h h' w v (do Pure.pure (Next.value (← Builtin.cap_ #[t] ty #[ρ x])))
    split at hc
    · rename_i el y hu hy
      obtain rfl := Option.some.inj hc
      simp only [iop] at hi
      have hr := hρ x t y hy
      have key : ∀ a n c, (Builtin.cap_ #[t] ty #[.slice a n c]).run P w = .ok (.int .i64 c) w := fun a n c => by
        simp [Builtin.cap_, run_underlying hu, goInt]
      split at hi
      · rename_i hl
        obtain ⟨rfl, rfl⟩ := Prod.mk.inj (Option.some.inj hi)
        rw [hl] at hr
        generalize ρ x = vx at hr ⊢
        cases hr with
        | sl b o sz len cap p c' hb hl hc hcap hrow =>
          obtain rfl := hcap _ rfl
          exact Fin.still hs (key _ _ _) (.int _ _)
      · rename_i hl
        obtain ⟨rfl, rfl⟩ := Prod.mk.inj (Option.some.inj hi)
        rw [hl] at hr
        generalize ρ x = vx at hr ⊢
        cases hr with
        | intsn k cap hcap =>
          obtain rfl := hcap _ rfl
          exact Fin.still hs (key _ _ _) (.int _ _)
        | intse k cap a' c' hcap =>
          obtain rfl := hcap _ rfl
          exact Fin.still hs (key _ _ _) (.int _ _)
        | ints k zs cap Bk off cs c' hG hcc hl hcap =>
          obtain rfl := hcap _ rfl
          exact Fin.still hs (key _ _ _) (.int _ _)
      · rename_i hl
        obtain ⟨rfl, rfl⟩ := Prod.mk.inj (Option.some.inj hi)
        rw [hl] at hr
        generalize ρ x = vx at hr ⊢
        cases hr with
        | lstn sz cap hcap =>
          obtain rfl := hcap _ rfl
          exact Fin.still hs (key _ _ _) (.int _ _)
        | lste sz cap a' c' hcap =>
          obtain rfl := hcap _ rfl
          exact Fin.still hs (key _ _ _) (.int _ _)
        | lst sz n xs cap Bk off cs c' ws hG hn hcc hrr hl hcap =>
          obtain rfl := hcap _ rfl
          exact Fin.still hs (key _ _ _) (.int _ _)
      · cases hi
    · cases hc
  · -- append
    rename_i t u x y ht hx
    rw [arr2 ht, arr2 hx, show (#[x, y] : Array Operand).map ρ = #[ρ x, ρ y] by simp]
    show Fin P m B h h' w v (do Pure.pure (Next.value (← Builtin.append_ #[t, u] ty #[ρ x, ρ y])))
    split at hc
    · rename_i el u' a b hu1 hu2 ha hb'
      split at hc
      · rename_i j hj
        split at hc
        · cases hc
        · rename_i hcond
          simp only [Bool.or_eq_true, beq_iff_eq, not_or] at hcond
          obtain rfl := Option.some.inj hc
          simp only [iop] at hi
          exact Fin.of (appendV_sound hs hu1 (.inl ⟨_, hu2⟩) hj (by cases hz : zeroL P el with | none => simp [hz] at hcond | some _ => rfl) hcond.1 (hρ x t a ha) (hρ y u b hb') hi)
      · cases hc
    · rename_i el a b hu1 hu2 ha hb'
      split at hc
      · rename_i j hj
        split at hc
        · cases hc
        · rename_i hcond
          simp only [Bool.or_eq_true, beq_iff_eq, not_or] at hcond
          obtain rfl := Option.some.inj hc
          simp only [iop] at hi
          exact Fin.of (appendV_sound hs hu1 (.inr hu2) hj (by cases hz : zeroL P el with | none => simp [hz] at hcond | some _ => rfl) hcond.1 (hρ x t a ha) (hρ y u b hb') hi)
      · cases hc
    · cases hc
  · -- copy
    rename_i t u x y ht hx
    rw [arr2 ht, arr2 hx, show (#[x, y] : Array Operand).map ρ = #[ρ x, ρ y] by simp]
    show Fin P m B h h' w v (do Pure.pure (Next.value (← Builtin.copy_ #[t, u] ty #[ρ x, ρ y])))
    split at hc
    · rename_i el a b hu1 ha hb'
      split at hc
      · rename_i j hj
        split at hc
        · cases hc
        · obtain rfl := Option.some.inj hc
          simp only [iop] at hi
          obtain ⟨w', hrun, ⟨n, rfl⟩, hsim, hg⟩ := copyV_sound (P := P) (u := u) (ty := ty) hs hu1 hj (hρ x t a ha) (hρ y u b hb') hi
          exact Fin.value hrun (.int _ _) hsim hg
      · cases hc
    · cases hc
  · -- min
    split at hc
    · rename_i l hl
      obtain rfl := Option.some.inj hc
      simp only [iop] at hi
      have hr := cOs0_rel hρ hl
      split at hi
      · rename_i x r hxr
        split at hi
        · rename_i v' hv'
          obtain ⟨rfl, rfl⟩ : v' = v ∧ h = h' := by simpa using hi
          rw [hxr] at hr
          generalize hargs : c.args.toList.map ρ = al at hr
          cases hr with
          | cons hx hrest =>
            obtain ⟨v'', hrun, hrel⟩ := foldMin_sound (P := P) (w := w) true hx hrest hv'
            simp only [if_true] at hrun
            exact Fin.still hs (by rw [run_min_eq (by rw [Array.toList_map]; exact hargs)]; exact hrun) hrel
        · cases hi
      · cases hi
    · cases hc
  · -- max
    split at hc
    · rename_i l hl
      obtain rfl := Option.some.inj hc
      simp only [iop] at hi
      have hr := cOs0_rel hρ hl
      split at hi
      · rename_i x r hxr
        split at hi
        · rename_i v' hv'
          obtain ⟨rfl, rfl⟩ : v' = v ∧ h = h' := by simpa using hi
          rw [hxr] at hr
          generalize hargs : c.args.toList.map ρ = al at hr
          cases hr with
          | cons hx hrest =>
            obtain ⟨v'', hrun, hrel⟩ := foldMin_sound (P := P) (w := w) false hx hrest hv'
            simp only [Bool.false_eq_true, if_false] at hrun
            exact Fin.still hs (by rw [run_max_eq (by rw [Array.toList_map]; exact hargs)]; exact hrun) hrel
        · cases hi
      · cases hi
    · cases hc
  · cases hc

/-- EVERY OPERATION THAT DOES NOT CALL. -/
theorem iop_sound {P : Program} {m : M} {B h h' w} {e : Env} {ρ : Operand → Value} (hρ : ORel P m e ρ) (hs : Sim m B h w) {o : Oper} {i : I} {v : V}
    (hc : cI P o.type o.op = some i) (hi : iop e h i = some (v, h')) : Fin P m B h h' w v (execOp ρ o) := by
  unfold execOp
  cases hop : o.op with
  | move x =>
    rw [hop] at hc
    obtain ⟨y, hy, rfl⟩ := opt_map hc
    obtain ⟨rfl, rfl⟩ := Prod.mk.inj (Option.some.inj hi)
    exact Fin.stillN hs rfl (hρ x _ y hy)
  | assign x =>
    rw [hop] at hc
    obtain ⟨y, hy, rfl⟩ := opt_map hc
    obtain ⟨rfl, rfl⟩ := Prod.mk.inj (Option.some.inj hi)
    exact Fin.stillN hs rfl (hρ x _ y hy)
  | pick c a b =>
    dsimp only
    rw [hop] at hc
    simp only [cI] at hc
    split at hc
    · rename_i x y z hx hy hz
      obtain rfl := Option.some.inj hc
      simp only [iop] at hi
      split at hi
      · rename_i t ht
        obtain ⟨rfl, rfl⟩ := Prod.mk.inj (Option.some.inj hi)
        have hr := hρ c _ x hx
        rw [ht] at hr
        generalize ρ c = vc at hr ⊢
        cases hr
        refine Fin.stillN (v' := if t then ρ a else ρ b) hs ?_ ?_
        · simp [asBool]
        · cases t
          · exact hρ b _ z hz
          · exact hρ a _ y hy
      · cases hi
    · cases hc
  | alloc el =>
    rw [hop] at hc
    obtain ⟨l, hl, rfl⟩ := opt_map hc
    simp only [iop, mkRow] at hi
    obtain ⟨rfl, rfl⟩ := Prod.mk.inj (Option.some.inj hi)
    exact Fin.of ((alloc_alloc hl).sound hs)
  | box el x =>
    rw [hop] at hc
    obtain ⟨y, hy, rfl⟩ := opt_map hc
    simp only [iop] at hi
    split at hi
    · rename_i l hl
      obtain ⟨rfl, rfl⟩ := Prod.mk.inj (Option.some.inj hi)
      exact Fin.of ((box_alloc (hρ x el y hy) hl).sound hs)
    · cases hi
  | build t parts =>
    rw [hop] at hc
    obtain ⟨rfl, v', hrun, hrel⟩ := build_sound (P := P) (w := w) hρ hc hi
    refine Fin.still hs ?_ hrel
    have : (parts.map fun x => (x.1, ρ x.2)) = (parts.toList.map fun x => (x.1, ρ x.2)).toArray := by apply Array.ext'; simp
    rw [← hrun]; congr 2
  | buildSlice t len parts =>
    rw [hop] at hc
    obtain ⟨rc, vf, hl, hal⟩ := buildSlice_alloc hρ hc hi
    have hlh := hl h
    rw [hi] at hlh
    obtain ⟨rfl, rfl⟩ := Prod.mk.inj (Option.some.inj hlh)
    have := hal.sound hs
    have e : (parts.map fun x => (x.1, ρ x.2)) = (parts.toList.map fun x => (x.1, ρ x.2)).toArray := by apply Array.ext'; simp
    rw [← e] at this
    exact Fin.of this
  | load t a =>
    rw [hop] at hc
    simp only [cI, cLoad] at hc
    split at hc
    · rename_i j d y hj hd hy
      obtain rfl := Option.some.inj hc
      simp only [iop] at hi
      split at hi
      · rename_i v' hv'
        obtain ⟨rfl, rfl⟩ := Prod.mk.inj (Option.some.inj hi)
        exact Fin.stay hs (loadV_sound hs hj (by rw [hd]; rfl) (hρ a 0 y hy) hv')
      · cases hi
    · cases hc
  | store t a x =>
    dsimp only
    rw [hop] at hc
    simp only [cI, cStore] at hc
    split at hc
    · rename_i j y z hj hy hz
      obtain rfl := Option.some.inj hc
      simp only [iop] at hi
      split at hi
      · rename_i h1 hh
        obtain ⟨rfl, rfl⟩ := Prod.mk.inj (Option.some.inj hi)
        obtain ⟨w', hrun, h2, h3⟩ := storeV_sound (P := P) hs hj (hρ a 0 y hy) (hρ x t z hz) hh
        refine ⟨m, undef, w', .inr ⟨by simp [hrun], rfl⟩, rel_tup .nil, h2, h3⟩
      · cases hi
    · cases hc
  | nilCheck x =>
    dsimp only
    rw [hop] at hc
    obtain ⟨y, hy, rfl⟩ := opt_map hc
    simp only [iop] at hi
    have hr := hρ x _ y hy
    split at hi
    all_goals first
      | (cases hi; done)
      | (rename_i hv
         obtain ⟨rfl, rfl⟩ := Prod.mk.inj (Option.some.inj hi)
         rw [hv] at hr
         generalize ρ x = vx at hr ⊢
         have hr' := hr
         cases hr
         exact Fin.stillN hs rfl hr')
  | binOp op t x y yt =>
    rw [hop] at hc
    simp only [cI, cBin] at hc
    split at hc
    · rename_i a b ha hb
      obtain rfl := Option.some.inj hc
      simp only [iop] at hi
      split at hi
      · rename_i v' hv'
        obtain ⟨rfl, rfl⟩ := Prod.mk.inj (Option.some.inj hi)
        exact Fin.stay hs (binV_sound (hρ x t a ha) (hρ y t b hb) hv')
      · cases hi
    · cases hc
  | unOp op t x =>
    rw [hop] at hc
    obtain ⟨y, hy, rfl⟩ := opt_map hc
    simp only [iop] at hi
    split at hi
    · rename_i v' hv'
      obtain ⟨rfl, rfl⟩ := Prod.mk.inj (Option.some.inj hi)
      exact Fin.stay hs (unV_sound (hρ x t y hy) hv')
    · cases hi
  | convert s d x =>
    dsimp only
    rw [hop] at hc
    simp only [cI, cConv] at hc
    split at hc
    · rename_i k1 k2 y h1 h2 hy
      obtain rfl := Option.some.inj hc
      have hr := hρ x s y hy
      simp only [iop] at hi
      split at hi
      · rename_i k n hv
        obtain ⟨rfl, rfl⟩ := Prod.mk.inj (Option.some.inj hi)
        rw [hv] at hr
        generalize ρ x = vx at hr ⊢
        cases hr
        exact Fin.still hs (by simp [convert, run_underlying h1, run_underlying h2, Conv.intToInt]) (.int _ _)
      · cases hi
    · rename_i k1 k2 y h1 h2 hy
      obtain rfl := Option.some.inj hc
      have hr := hρ x s y hy
      simp only [iop] at hi
      split at hi
      · rename_i k n hv
        obtain ⟨rfl, rfl⟩ := Prod.mk.inj (Option.some.inj hi)
        rw [hv] at hr
        generalize ρ x = vx at hr ⊢
        cases hr
        exact Fin.still hs (by simp [convert, run_underlying h1, run_underlying h2, Conv.intToFloat]) (.flt _ _)
      · cases hi
    · rename_i y h1 h2 hy
      obtain rfl := Option.some.inj hc
      have hr := hρ x s y hy
      simp only [iop] at hi
      split at hi
      · rename_i l hv
        obtain ⟨rfl, rfl⟩ := Prod.mk.inj (Option.some.inj hi)
        rw [hv] at hr
        generalize ρ x = vx at hr ⊢
        have hr' := hr
        cases hr
        exact Fin.still hs (by simp [convert, run_underlying h1, run_underlying h2]) hr'
      · cases hi
    · rename_i e' y h1 h2 hy
      split at hc
      · rename_i hk
        obtain rfl := Option.some.inj hc
        have hr := hρ x s y hy
        have hel : P.underlying e' = some (.int .u8) := by
          unfold iK at hk
          split at hk
          · rename_i k hku; rw [hku]; cases k <;> first | rfl | (simp at hk)
          · simp at hk
        simp only [iop] at hi
        split at hi
        · rename_i l hv
          split at hi
          · rename_i hlen
            obtain ⟨rfl, rfl⟩ := Prod.mk.inj (Option.some.inj hi)
            rw [hv] at hr
            generalize ρ x = vx at hr ⊢
            cases hr with
            | str s' _ hl => exact Fin.of ((s2b_alloc h1 h2 hel hl (by simpa using hlen)).sound hs)
          · cases hi
        · cases hi
      · cases hc
    · rename_i e' y h1 h2 hy
      split at hc
      · rename_i hk
        obtain rfl := Option.some.inj hc
        have hr := hρ x s y hy
        have hel : P.underlying e' = some (.int .u8) := by
          unfold iK at hk
          split at hk
          · rename_i k hku; rw [hku]; cases k <;> first | rfl | (simp at hk)
          · simp at hk
        simp only [iop] at hi
        split at hi
        · rename_i zs hel8
          split at hi
          · rename_i n hn
            split at hi
            · rename_i hsz
              obtain ⟨rfl, rfl⟩ := Prod.mk.inj (Option.some.inj hi)
              exact Fin.stay hs (b2s_sound hs h1 h2 hel hr hel8 hn (by simpa using hsz))
            · cases hi
          · cases hi
        · cases hi
      · cases hc
    · cases hc
  | makeSlice t l c =>
    rw [hop] at hc
    obtain ⟨rc, vf, hl, hal⟩ := makeSlice_alloc hρ hc hi
    have hlh := hl h
    rw [hi] at hlh
    obtain ⟨rfl, rfl⟩ := Prod.mk.inj (Option.some.inj hlh)
    exact Fin.of (hal.sound hs)
  | slice t x lo hi' mx =>
    dsimp only
    rw [hop] at hc
    simp only [cI, cSlice] at hc
    split at hc
    · rename_i y l hh h1 hy h2 h3 h4
      obtain rfl := Option.some.inj hc
      have hr := hρ x t y hy
      simp only [iop] at hi
      split at hi
      · rename_i s hv
        split at hi
        · rename_i a b c hb
          obtain ⟨rfl, rfl⟩ := Prod.mk.inj (Option.some.inj hi)
          rw [hv] at hr
          generalize ρ x = vx at hr ⊢
          have hmx : mx = none := by
            cases mx with
            | none => rfl
            | some q => simp only [cOo] at h4; split at h4 <;> cases h4
          subst hmx
          cases hr with
          | str s' _ hl =>
            subst hl
            have hsz : s'.size = (s'.data.toList.map (·.toNat)).length := by simp
            rw [← hsz] at hb
            refine Fin.still hs (v' := .string (s'.extract a b)) ?_ ?_
            · exact sliceS_sound hρ h1 h2 h3 hb
            · refine .str _ _ ?_
              rw [ByteArray.data_extract]
              simp [List.map_take, List.map_drop, List.drop_take]
        · cases hi
      · cases hi
    · rename_i el y l hh mm h1 hy h2 h3 h4
      split at hc
      · rename_i j hj
        obtain rfl := Option.some.inj hc
        simp only [iop] at hi
        split at hi
        · rename_i v' hv'
          obtain ⟨rfl, rfl⟩ := Prod.mk.inj (Option.some.inj hi)
          exact Fin.stay hs (sliceV_sound hρ hs h1 hj h2 h3 h4 (hρ x t y hy) hv')
        · cases hi
      · cases hc
    · cases hc
  | fieldAddr s x f =>
    dsimp only
    rw [hop] at hc
    simp only [cI, cFieldAddr] at hc
    split at hc
    · rename_i fs y hfs hy
      split at hc
      · rename_i g hg
        split at hc
        · rename_i j hj
          split at hc
          · cases hc
          · rename_i hsz
            obtain rfl := Option.some.inj hc
            simp only [iop] at hi
            split at hi
            · rename_i v' hv'
              obtain ⟨rfl, rfl⟩ := Prod.mk.inj (Option.some.inj hi)
              obtain ⟨a, ha, hrel⟩ := moveP_sound (hρ x 0 y hy) hv'
              refine Fin.still hs ?_ hrel
              have hsz' : ¬ j.size = 0 := by simpa using hsz
              rw [ha]
              simp [Instr.fieldAt, run_underlying hfs, hg, Instr.sureAddr, fieldPlace, run_size hj, hsz']
            · cases hi
        · cases hc
      · cases hc
    · cases hc
  | field s x f =>
    dsimp only
    rw [hop] at hc
    simp only [cI, cField] at hc
    split at hc
    · rename_i fs y hfs hy
      split at hc
      · rename_i g hg
        split at hc
        · rename_i j d hj hd
          obtain rfl := Option.some.inj hc
          have hr := hρ x s y hy
          simp only [iop] at hi
          split at hi
          · rename_i xs hxs
            split at hi
            · rename_i v' hv'
              obtain ⟨rfl, rfl⟩ := Prod.mk.inj (Option.some.inj hi)
              rw [hxs] at hr
              generalize ρ x = vx at hr ⊢
              have hr' := hr
              cases hr with
              | agg _ a h1 h2 =>
                obtain ⟨v'', hrun, hrel⟩ := cellsAt_sound (P := P) (w := w) hj (by rw [hd]; rfl) (relL_of_agg hr') hv'
                exact Fin.still hs (by simp [Instr.field, run_underlying hfs, hg, asAgg, hrun]) hrel
            · cases hi
          · cases hi
        · cases hc
      · cases hc
    · cases hc
  | indexAddr t x i' =>
    dsimp only
    rw [hop] at hc
    simp only [cI, cIndexAddr] at hc
    split at hc
    · rename_i el y z h1 hy hz
      split at hc
      · rename_i j hj
        obtain rfl := Option.some.inj hc
        simp only [iop] at hi
        split at hi
        · rename_i v' hv'
          obtain ⟨rfl, rfl⟩ := Prod.mk.inj (Option.some.inj hi)
          exact Fin.stay hs (elemAddr_sound h1 hj (hρ x t y hy) (hρ i' 0 z hz) hv')
        · cases hi
      · cases hc
    · rename_i n el y z h1 hy hz
      split at hc
      · rename_i j hj
        obtain rfl := Option.some.inj hc
        have hri := hρ i' 0 z hz
        simp only [iop] at hi
        split at hi
        · rename_i k q hq
          split at hi
          · rename_i hcond
            simp only [Bool.and_eq_true, decide_eq_true_eq] at hcond
            split at hi
            · rename_i v' hv'
              obtain ⟨rfl, rfl⟩ := Prod.mk.inj (Option.some.inj hi)
              obtain ⟨a, ha, hrel⟩ := moveP_sound (hρ x t y hy) hv'
              rw [hq] at hri
              generalize ρ i' = vi at hri ⊢
              cases hri
              refine Fin.still hs ?_ hrel
              rw [ha]
              simp [Instr.indexAt, asIntOf, run_underlying h1, Instr.sureAddr, hcond.1, hcond.2, run_size hj]
            · cases hi
          · cases hi
        · cases hi
      · cases hc
    · cases hc
  | index t x i' =>
    dsimp only
    rw [hop] at hc
    simp only [cI, cIndex] at hc
    split at hc
    · rename_i y z h1 hy hz
      obtain rfl := Option.some.inj hc
      have hrx := hρ x t y hy
      have hri := hρ i' 0 z hz
      simp only [iop] at hi
      split at hi
      · rename_i l k q hl hq
        split at hi
        · rename_i hcond
          simp only [Bool.and_eq_true, decide_eq_true_eq] at hcond
          obtain ⟨rfl, rfl⟩ := Prod.mk.inj (Option.some.inj hi)
          rw [hl] at hrx; rw [hq] at hri
          generalize ρ i' = vi at hri ⊢
          generalize ρ x = vx at hrx ⊢
          cases hri
          cases hrx with
          | str s _ he =>
            subst he
            have hlt : q.toNat < s.data.size := by
              have h2 := hcond.2
              rw [List.length_map, Array.length_toList] at h2
              omega
            have hget : s[q.toNat]? = some s.data[q.toNat] := by
              rw [getElem?_pos s q.toNat (by exact hlt)]; rfl
            refine Fin.still hs (v' := .int .u8 (s.data[q.toNat]).toNat) ?_ ?_
            · simp [Instr.index, asIntOf, run_underlying h1, hcond.1, hget]
            · rw [show (s.data.toList.map (·.toNat)).getD q.toNat 0 = (s.data[q.toNat]).toNat by
                rw [List.getD, List.getElem?_map, Array.getElem?_toList, Array.getElem?_eq_getElem hlt]; rfl]
              exact .int _ _
        · cases hi
      · cases hi
    · rename_i n el y z h1 hy hz
      split at hc
      · rename_i j d hj hd
        obtain rfl := Option.some.inj hc
        have hrx := hρ x t y hy
        have hri := hρ i' 0 z hz
        simp only [iop] at hi
        split at hi
        · rename_i xs k q hxs hq
          split at hi
          · rename_i hcond
            simp only [Bool.and_eq_true, decide_eq_true_eq] at hcond
            split at hi
            · rename_i v' hv'
              obtain ⟨rfl, rfl⟩ := Prod.mk.inj (Option.some.inj hi)
              rw [hxs] at hrx; rw [hq] at hri
              generalize ρ i' = vi at hri ⊢
              generalize ρ x = vx at hrx ⊢
              cases hri
              have hr' := hrx
              cases hrx with
              | agg _ a g1 g2 =>
                obtain ⟨v'', hrun, hrel⟩ := cellsAt_sound (P := P) (w := w) hj (by rw [hd]; rfl) (relL_of_agg hr') hv'
                exact Fin.still hs (by simp [Instr.index, asIntOf, run_underlying h1, hcond.1, hcond.2, run_size hj, hrun]) hrel
            · cases hi
          · cases hi
        · cases hi
      · cases hc
    · cases hc
  | extract x k =>
    dsimp only
    rw [hop] at hc
    obtain ⟨y, hy, rfl⟩ := opt_map hc
    have hr := hρ x 0 y hy
    simp only [iop] at hi
    split at hi
    · rename_i xs hxs
      split at hi
      · rename_i v' hv'
        obtain ⟨rfl, rfl⟩ := Prod.mk.inj (Option.some.inj hi)
        rw [hxs] at hr
        generalize ρ x = vx at hr ⊢
        cases hr with
        | tup _ a h1 h2 =>
          obtain ⟨hl, e⟩ := List.getElem?_eq_some_iff.1 hv'
          have hl' : k < a.size := by omega
          refine Fin.still hs (v' := a[k]) ?_ (by rw [← e]; exact h2 k hl hl')
          simp [Instr.extract, hl']
      · cases hi
    · cases hi
  | makeMap t r =>
    dsimp only
    rw [hop] at hc
    simp only [cI] at hc
    have hcon : ∀ k n, ρ (.const (.int k n)) = .int k n := fun k n => by
      have h1 : Rel m (ev e (.c (.int k n))) (ρ (.const (.int k n))) := hρ (.const (.int k n)) 0 (.c (.int k n)) rfl
      have h2 : ev e (.c (.int k n)) = .int k n := rfl
      rw [h2] at h1
      generalize ρ (.const (.int k n)) = q at h1 ⊢
      cases h1
      rfl
    obtain ⟨rfl, hrun⟩ := cMakeMap_spec (P := P) (ρ := ρ) hc hcon
    simp only [iop] at hi
    obtain ⟨rfl, rfl⟩ := Prod.mk.inj (Option.some.inj hi)
    obtain ⟨h1, h2⟩ := hs.newMap (w' := w.alloc (.map #[] 0)) ⟨rfl, rfl, rfl⟩ rfl
    exact Fin.value (hrun w) (.map _ _ (by simp [M.addMap])) h1 h2
  | lookup t x i' ok =>
    dsimp only
    rw [hop] at hc
    simp only [cI, cMget] at hc
    split at hc
    · rename_i kt el hm
      split at hc
      · rename_i q z a b hq hz ha hb
        obtain rfl := Option.some.inj hc
        simp only [iop] at hi
        split at hi
        · rename_i v' hv'
          obtain ⟨rfl, rfl⟩ := Prod.mk.inj (Option.some.inj hi)
          exact Fin.stay hs (mgetV_sound hs hm hq hz (hρ x t a ha) (hρ i' kt b hb) hv')
        · cases hi
      · cases hc
    · cases hc
  | mapUpdate t x k y =>
    dsimp only
    rw [hop] at hc
    simp only [cI, cMset] at hc
    split at hc
    · rename_i kt el hm
      split at hc
      · rename_i q a b c hq ha hb hcx
        obtain rfl := Option.some.inj hc
        simp only [iop] at hi
        split at hi
        · rename_i h1 hv'
          obtain ⟨rfl, rfl⟩ := Prod.mk.inj (Option.some.inj hi)
          obtain ⟨w', hrun, h2, h3⟩ := msetV_sound (P := P) hs hm hq (hρ x t a ha) (hρ k kt b hb) (hρ y el c hcx) hv'
          refine ⟨m, undef, w', .inr ⟨by simp [hrun], rfl⟩, rel_tup .nil, h2, h3⟩
        · cases hi
      · cases hc
    · cases hc
  | insert t x k y =>
    dsimp only
    rw [hop] at hc
    simp only [cI, cMset] at hc
    split at hc
    · rename_i kt el hm
      split at hc
      · rename_i q a b c hq ha hb hcx
        obtain rfl := Option.some.inj hc
        simp only [iop] at hi
        split at hi
        · rename_i h1 hv'
          obtain ⟨rfl, rfl⟩ := Prod.mk.inj (Option.some.inj hi)
          obtain ⟨w', hrun, h2, h3⟩ := msetV_sound (P := P) hs hm hq (hρ x t a ha) (hρ k kt b hb) (hρ y el c hcx) hv'
          refine ⟨m, undef, w', .inr ⟨by simp [hrun], rfl⟩, rel_tup .nil, h2, h3⟩
        · cases hi
      · cases hc
    · cases hc
  | makeFunc fn a b =>
    dsimp only
    rw [hop] at hc
    cases fn with
    | func f =>
      simp only [cI] at hc
      split at hc
      · rename_i x y hx hy
        obtain rfl := Option.some.inj hc
        simp only [iop] at hi
        obtain ⟨rfl, rfl⟩ := Prod.mk.inj (Option.some.inj hi)
        have h1 := cOs0_rel hρ hx
        have h2 := cOs0_rel hρ hy
        refine Fin.still hs (v' := .func (.func f) (a.map ρ) (b.map ρ)) rfl ?_
        refine .func f _ _ _ _ (by have := h1.length; simpa using this) (by have := h2.length; simpa using this) (fun j g1 g2 => ?_) (fun j g1 g2 => ?_)
        · have := h1.get j g1 (by simpa using g2); simpa using this
        · have := h2.get j g1 (by simpa using g2); simpa using this
      · cases hc
    | _ => simp [cI] at hc
  | call c =>
    rw [hop] at hc
    simp only [cI, cCall] at hc
    split at hc
    · rename_i b hb
      exact builtin_sound hρ hs hb hc hi
    · split at hc
      · obtain rfl := Option.some.inj hc; simp [iop] at hi
      · cases hc
    · split at hc
      · obtain rfl := Option.some.inj hc; simp [iop] at hi
      · cases hc
    · cases hc
  | _ => rw [hop] at hc; simp [cI] at hc

end Go.AM
