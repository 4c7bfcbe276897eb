/- Operations that leave the heap alone: those of the abstract machine are those of the model. -/
import Derived.Test.YtgfohimonbagmaaGreatDoorAMOps1
namespace Go.AM
open Go.RowKit (Below)

/-- What an operation's run comes to. -/
def Fin (P : Program) (m : M) (B : Nat) (h h' : H) (w : World) (v : V) (s : Sem Next) : Prop :=
  ∃ m' v' w', (s.run P w = .ok (.value v') w' ∨ (s.run P w = .ok .skip w' ∧ v' = undef)) ∧ Rel m' v v' ∧ Sim m' B h' w' ∧ Grows B m m' h h' w w'

theorem Fin.value {P : Program} {m m' : M} {B h h' w w'} {v v'} {s : Sem Value} (hrun : s.run P w = .ok v' w') (hr : Rel m' v v') (hs : Sim m' B h' w') (hg : Grows B m m' h h' w w') :
    Fin P m B h h' w v (do pure (Next.value (← s))) :=
  ⟨m', v', w', .inl (by simp [hrun]), hr, hs, hg⟩

theorem Fin.still {P : Program} {m : M} {B h w} {v v'} {s : Sem Value} (hs : Sim m B h w) (hrun : s.run P w = .ok v' w) (hr : Rel m v v') :
    Fin P m B h h w v (do pure (Next.value (← s))) := .value hrun hr hs (Grows.refl ..)

theorem Fin.stillN {P : Program} {m : M} {B h w} {v v'} {s : Sem Next} (hs : Sim m B h w) (hrun : s.run P w = .ok (.value v') w) (hr : Rel m v v') :
    Fin P m B h h w v s := ⟨m, v', w, .inl hrun, hr, hs, Grows.refl ..⟩

/-! Arithmetic and comparisons. -/

theorem intBin_sound {P : Program} {m : M} {w : World} {op : BinOp} {t : TypeId} {X Y : Operand} {k : IntKind} {a b : Int} {v : V}
    (hop : op ≠ .shl ∧ op ≠ .shr) (h : intBin op k a b = some v) :
    ∃ v', (do eqGuard op t X Y (.int k a) (.int k b); binOp op t (.int k a) (.int k b)).run P w = .ok v' w ∧ Rel m v v' := by
  obtain ⟨h1, h2⟩ := hop
  rw [eqGuard_at_int]
  cases op <;> first
    | exact absurd rfl h1
    | exact absurd rfl h2
    | (simp only [intBin, intBits] at h
       first
         | (obtain rfl := Option.some.inj h
            first
              | exact ⟨_, by rw [binOp_add]; rfl, .int _ _⟩ | exact ⟨_, by rw [binOp_sub]; rfl, .int _ _⟩ | exact ⟨_, by rw [binOp_mul]; rfl, .int _ _⟩
              | exact ⟨_, by rw [binOp_and]; rfl, .int _ _⟩ | exact ⟨_, by rw [binOp_or]; rfl, .int _ _⟩ | exact ⟨_, by rw [binOp_xor]; rfl, .int _ _⟩ | exact ⟨_, by rw [binOp_andNot]; rfl, .int _ _⟩
              | exact ⟨_, by rw [binOp_eql]; rfl, .bool _⟩ | exact ⟨_, by rw [binOp_neq]; rfl, .bool _⟩ | exact ⟨_, by rw [binOp_lss]; rfl, .bool _⟩
              | exact ⟨_, by rw [binOp_leq]; rfl, .bool _⟩ | exact ⟨_, by rw [binOp_gtr]; rfl, .bool _⟩ | exact ⟨_, by rw [binOp_geq]; rfl, .bool _⟩)
         | (split at h
            · cases h
            · rename_i hb
              obtain rfl := Option.some.inj h
              have hb' : ¬ b = 0 := by simpa using hb
              refine ⟨_, by simp [binOp, Op.intDiv, hb']; rfl, ?_⟩
              exact .int _ _))

theorem bytesLess_eq : ∀ (a b : List UInt8), Op.bytesLess a b = bytesLess (a.map (·.toNat)) (b.map (·.toNat))
  | [], [] => rfl
  | _ :: _, [] => rfl
  | [], _ :: _ => rfl
  | a :: x, b :: y => by
    simp only [Op.bytesLess, bytesLess, List.map_cons]
    rw [bytesLess_eq x y]
    congr 1
    congr 1
    rw [Bool.eq_iff_iff]; simp [UInt8.toNat_inj]

theorem map_toNat_inj : ∀ {a b : List UInt8}, a.map (·.toNat) = b.map (·.toNat) → a = b
  | [], [], _ => rfl
  | [], _ :: _, h => by simp at h
  | _ :: _, [], h => by simp at h
  | a :: x, b :: y, h => by
    simp only [List.map_cons, List.cons.injEq] at h
    rw [UInt8.toNat_inj.1 h.1, map_toNat_inj h.2]

theorem eq_bytes (a b : List UInt8) : (a == b) = (a.map (·.toNat) == b.map (·.toNat)) := by
  rw [Bool.eq_iff_iff]; simp only [beq_iff_eq]
  exact ⟨fun h => by rw [h], map_toNat_inj⟩

theorem strBin_sound {P : Program} {m : M} {w : World} {op : BinOp} {t : TypeId} {X Y : Operand} {a b : ByteArray} {v : V}
    (h : strBin op (a.data.toList.map (·.toNat)) (b.data.toList.map (·.toNat)) = some v) :
    ∃ v', (do eqGuard op t X Y (.string a) (.string b); binOp op t (.string a) (.string b)).run P w = .ok v' w ∧ Rel m v v' := by
  rw [eqGuard_at_string]
  have hsa : a.size = a.data.toList.length := by rw [Array.length_toList]; rfl
  have hsb : b.size = b.data.toList.length := by rw [Array.length_toList]; rfl
  have he : (a.toList == b.toList) = (a.data.toList.map (·.toNat) == b.data.toList.map (·.toNat)) := by
    rw [ByteArray.toList_eq, ByteArray.toList_eq, eq_bytes]
  have hl : Op.bytesLess a.toList b.toList = bytesLess (a.data.toList.map (·.toNat)) (b.data.toList.map (·.toNat)) := by
    rw [ByteArray.toList_eq, ByteArray.toList_eq, bytesLess_eq]
  cases op <;> simp only [strBin] at h
  case add =>
    split at h
    · rename_i hl
      obtain rfl := Option.some.inj h
      refine ⟨.string (a ++ b), ?_, .str _ _ (by simp [ByteArray.data_append])⟩
      have hl' : ¬ (9223372036854775807 < a.size + b.size) := by
        simp only [List.length_map, decide_eq_true_eq] at hl
        omega
      have : ¬ ((9223372036854775807 : Int) < (a.size : Int) + (b.size : Int)) := by omega
      simp [binOp, Op.stringOp, this]
    · cases h
  case eql => obtain rfl := Option.some.inj h; rw [← he]; exact ⟨_, rfl, .bool _⟩
  case neq => obtain rfl := Option.some.inj h; rw [← he]; exact ⟨_, rfl, .bool _⟩
  case lss => obtain rfl := Option.some.inj h; rw [← hl]; exact ⟨_, rfl, .bool _⟩
  case leq => obtain rfl := Option.some.inj h; rw [← hl, ← he]; exact ⟨_, rfl, .bool _⟩
  case gtr => obtain rfl := Option.some.inj h; rw [← hl, ← he]; exact ⟨_, rfl, .bool _⟩
  case geq => obtain rfl := Option.some.inj h; rw [← hl]; exact ⟨_, rfl, .bool _⟩
  all_goals cases h

theorem isNil_sound {m : M} {x : V} {vx : Value} {b : Bool} (hx : Rel m x vx) (h : x.isNil = some b) : ∃ a n c, vx = .slice a n c ∧ b = a.isNone := by
  cases hx <;> simp [V.isNil] at h <;> subst h <;> exact ⟨_, _, _, rfl, rfl⟩

theorem nil_const {m : M} {vy : Value} {cap} {sz n xs} (h : Rel m (.lst sz true n xs cap) vy) : vy = .slice none 0 0 := by
  cases h; rfl
theorem nil_const' {m : M} {vy : Value} {cap} {k zs} (h : Rel m (.ints k true zs cap) vy) : vy = .slice none 0 0 := by
  cases h; rfl

theorem tyOf_slice {P : Program} {t : TypeId} (h : tyOf P t = .slice) : ∃ e, P.underlying t = some (.slice e) := by
  unfold tyOf at h
  split at h <;> first | (cases h; done) | exact ⟨_, ‹_›⟩
theorem tyOf_ptr {P : Program} {t : TypeId} (h : tyOf P t = .ptr) : ∃ e, P.underlying t = some (.pointer e) := by
  unfold tyOf at h
  split at h <;> first | (cases h; done) | exact ⟨_, ‹_›⟩
theorem tyOf_bool {P : Program} {t : TypeId} (h : tyOf P t = .bool) : P.underlying t = some .bool := by
  unfold tyOf at h
  split at h <;> first | (cases h; done) | assumption

theorem run_equal_slice_nil' {P : Program} {w : World} {t e : TypeId} (h : P.underlying t = some (.slice e)) (a : Option Addr) (n c : Nat) : (Op.equal t (.slice a n c) (.slice none 0 0)).run P w = .ok a.isNone w :=
  run_equal_slice_nil w t e a n c h

theorem run_equal_ptr_nil {P : Program} {w : World} {t e : TypeId} (h : P.underlying t = some (.pointer e)) (a : Option Addr) : (Op.equal t (.pointer a) (.pointer none)).run P w = .ok a.isNone w := by
  have : P.pointee t = e := by simp [Program.pointee, h]
  exact run_equal_pointer_nil w t a (by rw [this]; exact h)

theorem binV_sound {P : Program} {m : M} {w : World} {op : BinOp} {t : TypeId} {X Y : Operand} {x y v : V} {vx vy : Value}
    (hx : Rel m x vx) (hy : Rel m y vy) (h : binV op (tyOf P t) x y = some v) :
    ∃ v', (do eqGuard op t X Y vx vy; binOp op t vx vy).run P w = .ok v' w ∧ Rel m v v' := by
  unfold binV at h
  split at h
  · -- shl
    cases hx; cases hy
    split at h
    · cases h
    · rename_i hb
      obtain rfl := Option.some.inj h
      have hb' := of_decide_eq_false (Bool.eq_false_iff.2 hb)
      refine ⟨_, ?_, .int _ _⟩
      rw [eqGuard_at_int]
      simp [binOp, Op.shift, hb', Nat.min_def]
  · cases hx; cases hy
    split at h
    · cases h
    · rename_i hb
      obtain rfl := Option.some.inj h
      have hb' := of_decide_eq_false (Bool.eq_false_iff.2 hb)
      refine ⟨_, ?_, .int _ _⟩
      rw [eqGuard_at_int]
      simp [binOp, Op.shift, hb', Nat.min_def]
  · rename_i k a k' b h1 h2
    cases hx; cases hy
    split at h
    · rename_i hk
      simp only [beq_iff_eq] at hk
      subst hk
      exact intBin_sound ⟨h1, h2⟩ h
    · cases h
  · cases hx with
    | str s l hl =>
      cases hy with
      | str s' l' hl' =>
        subst hl; subst hl'
        exact strBin_sound h
  · cases hx; cases hy
    obtain rfl := Option.some.inj h
    rw [eqGuard_at_bool]
    exact ⟨_, by simp [binOp, run_equal_bool, tyOf_bool ‹_›], .bool _⟩
  · cases hx; cases hy
    obtain rfl := Option.some.inj h
    rw [eqGuard_at_bool]
    exact ⟨_, by simp [binOp, run_equal_bool, tyOf_bool ‹_›], .bool _⟩
  · rename_i hty
    split at h
    · rename_i b hb
      obtain rfl := Option.some.inj h
      obtain ⟨a, n, c, rfl, rfl⟩ := isNil_sound hx hb
      obtain ⟨e, he⟩ := tyOf_slice hty
      rw [nil_const hy, eqGuard_at_slice]
      exact ⟨_, by simp [binOp, run_equal_slice_nil' he], .bool _⟩
    · cases h
  · rename_i hty
    split at h
    · rename_i b hb
      obtain rfl := Option.some.inj h
      obtain ⟨a, n, c, rfl, rfl⟩ := isNil_sound hx hb
      obtain ⟨e, he⟩ := tyOf_slice hty
      rw [nil_const hy, eqGuard_at_slice]
      exact ⟨_, by simp [binOp, run_equal_slice_nil' he], .bool _⟩
    · cases h
  · rename_i hty
    split at h
    · rename_i b hb
      obtain rfl := Option.some.inj h
      obtain ⟨a, n, c, rfl, rfl⟩ := isNil_sound hx hb
      obtain ⟨e, he⟩ := tyOf_slice hty
      rw [nil_const' hy, eqGuard_at_slice]
      exact ⟨_, by simp [binOp, run_equal_slice_nil' he], .bool _⟩
    · cases h
  · rename_i hty
    split at h
    · rename_i b hb
      obtain rfl := Option.some.inj h
      obtain ⟨a, n, c, rfl, rfl⟩ := isNil_sound hx hb
      obtain ⟨e, he⟩ := tyOf_slice hty
      rw [nil_const' hy, eqGuard_at_slice]
      exact ⟨_, by simp [binOp, run_equal_slice_nil' he], .bool _⟩
    · cases h
  · cases hx; cases hy
    obtain ⟨e, he⟩ := tyOf_ptr ‹_›
    obtain rfl := Option.some.inj h
    rw [eqGuard_at_pointer]
    exact ⟨_, by simp [binOp, run_equal_ptr_nil he], .bool _⟩
  · cases hx; cases hy
    obtain ⟨e, he⟩ := tyOf_ptr ‹_›
    obtain rfl := Option.some.inj h
    rw [eqGuard_at_pointer]
    exact ⟨_, by simp [binOp, run_equal_ptr_nil he], .bool _⟩
  · cases hx; cases hy
    obtain ⟨e, he⟩ := tyOf_ptr ‹_›
    obtain rfl := Option.some.inj h
    rw [eqGuard_at_pointer]
    exact ⟨_, by simp [binOp, run_equal_ptr_nil he], .bool _⟩
  · cases hx; cases hy
    obtain ⟨e, he⟩ := tyOf_ptr ‹_›
    obtain rfl := Option.some.inj h
    rw [eqGuard_at_pointer]
    exact ⟨_, by simp [binOp, run_equal_ptr_nil he], .bool _⟩
  · cases h

theorem unV_sound {P : Program} {m : M} {w : World} {op : UnOp} {x v : V} {vx : Value} (hx : Rel m x vx) (h : unV op x = some v) :
    ∃ v', (Op.unary op vx).run P w = .ok v' w ∧ Rel m v v' := by
  unfold unV at h
  split at h
  · cases hx; obtain rfl := Option.some.inj h; exact ⟨_, rfl, .int _ _⟩
  · cases hx
    simp only [intBits] at h
    obtain rfl := Option.some.inj h
    exact ⟨_, rfl, .int _ _⟩
  · cases hx; obtain rfl := Option.some.inj h; exact ⟨_, rfl, .bool _⟩
  · cases h

/-! Strings and slices cut. -/

theorem asNat_sound {P : Program} {m : M} {w : World} {x : V} {vx : Value} {y c n : Nat} {code : BoundsCode} (hx : Rel m x vx) (h : asNat x y = some n) (hy : y ≤ c) :
    (Instr.sliceBound vx c code).run P w = .ok n w ∧ n ≤ y := by
  unfold asNat at h
  split at h
  · rename_i k i
    cases hx
    split at h
    · rename_i hi
      simp only [Bool.and_eq_true, decide_eq_true_eq] at hi
      obtain rfl := Option.some.inj h
      refine ⟨?_, by omega⟩
      simp only [Instr.sliceBound, asIntOf]
      have : 0 ≤ i ∧ i ≤ (c : Int) := ⟨hi.1, by omega⟩
      simp [this]
    · cases h
  · cases h

theorem bounds_sound {P : Program} {m : M} {w : World} {e : Env} {ρ : Operand → Value} (hρ : ORel P m e ρ) {len ca c l hh mm : Nat} {lo hi mx : Option Operand} {lo' hi' mx' : Option O} (isSlice : Bool)
    (h1 : cOo P lo = some lo') (h2 : cOo P hi = some hi') (h3 : cOo P mx = some mx') (hc : ca ≤ c) (hlen : len ≤ ca) (h : bounds e len ca lo' hi' mx' = some (l, hh, mm)) :
    (Instr.sliceBounds isSlice len c (lo.map ρ) (hi.map ρ) (mx.map ρ)).run P w = .ok (l, hh, if mx'.isSome then mm else c) w ∧ l ≤ hh ∧ hh ≤ mm ∧ mm ≤ ca ∧ (mx' = none → mm = ca) := by
  have opt : ∀ {x : Option Operand} {x' : Option O}, cOo P x = some x' → (x = none ∧ x' = none) ∨ ∃ y z, x = some y ∧ x' = some z ∧ Rel m (ev e z) (ρ y) := by
    intro x x' hx
    cases x with
    | none => simp [cOo] at hx; exact .inl ⟨rfl, hx.symm⟩
    | some y =>
      simp only [cOo] at hx
      split at hx
      · rename_i z hz
        obtain rfl := Option.some.inj hx
        exact .inr ⟨y, z, rfl, rfl, hρ _ _ _ hz⟩
      · cases hx
  unfold bounds at h
  rcases opt h3 with ⟨rfl, rfl⟩ | ⟨ym, zm, rfl, rfl, hm⟩
  · simp only at h
    rcases opt h2 with ⟨rfl, rfl⟩ | ⟨yh, zh, rfl, rfl, hh'⟩
    · simp only at h
      rcases opt h1 with ⟨rfl, rfl⟩ | ⟨yl, zl, rfl, rfl, hl⟩
      · simp only [Option.some.injEq, Prod.mk.injEq] at h
        obtain ⟨rfl, rfl, rfl⟩ := h
        exact ⟨by simp [Instr.sliceBounds], by omega, by omega, by omega, fun _ => rfl⟩
      · simp only at h
        split at h
        · cases h
        · rename_i n hn
          simp only [Option.some.injEq, Prod.mk.injEq] at h
          obtain ⟨rfl, rfl, rfl⟩ := h
          obtain ⟨r1, r2⟩ := asNat_sound (P := P) (w := w) (code := .sliceB) hl hn (Nat.le_refl _)
          exact ⟨by simp [Instr.sliceBounds, r1], r2, by omega, by omega, fun _ => rfl⟩
    · simp only at h
      split at h
      · cases h
      · rename_i nh hnh
        obtain ⟨s1, s2⟩ := asNat_sound (P := P) (w := w) (c := c) (code := if isSlice then .sliceAcap else .sliceAlen) hh' hnh hc
        rcases opt h1 with ⟨rfl, rfl⟩ | ⟨yl, zl, rfl, rfl, hl⟩
        · simp only [Option.some.injEq, Prod.mk.injEq] at h
          obtain ⟨rfl, rfl, rfl⟩ := h
          exact ⟨by simp [Instr.sliceBounds, s1], by omega, by omega, by omega, fun _ => rfl⟩
        · simp only at h
          split at h
          · cases h
          · rename_i n hn
            simp only [Option.some.injEq, Prod.mk.injEq] at h
            obtain ⟨rfl, rfl, rfl⟩ := h
            obtain ⟨r1, r2⟩ := asNat_sound (P := P) (w := w) (code := .sliceB) hl hn (Nat.le_refl _)
            exact ⟨by simp [Instr.sliceBounds, s1, r1], r2, by omega, by omega, fun _ => rfl⟩
  · simp only at h
    split at h
    · cases h
    · rename_i nm hnm
      obtain ⟨t1, t2⟩ := asNat_sound (P := P) (w := w) (c := c) (code := if isSlice then .slice3Acap else .slice3Alen) hm hnm hc
      rcases opt h2 with ⟨rfl, rfl⟩ | ⟨yh, zh, rfl, rfl, hh'⟩
      · simp at h
      · simp only at h
        split at h
        · cases h
        · rename_i nh hnh
          obtain ⟨s1, s2⟩ := asNat_sound (P := P) (w := w) (code := .slice3B) hh' hnh (Nat.le_refl _)
          rcases opt h1 with ⟨rfl, rfl⟩ | ⟨yl, zl, rfl, rfl, hl⟩
          · simp only [Option.some.injEq, Prod.mk.injEq] at h
            obtain ⟨rfl, rfl, rfl⟩ := h
            exact ⟨by simp [Instr.sliceBounds, t1, s1], by omega, by omega, by omega, fun e => by cases e⟩
          · simp only at h
            split at h
            · cases h
            · rename_i n hn
              simp only [Option.some.injEq, Prod.mk.injEq] at h
              obtain ⟨rfl, rfl, rfl⟩ := h
              obtain ⟨r1, r2⟩ := asNat_sound (P := P) (w := w) (code := .slice3C) hl hn (Nat.le_refl _)
              exact ⟨by simp [Instr.sliceBounds, t1, s1, r1], r2, by omega, by omega, fun e => by cases e⟩

end Go.AM
