/- The fast evaluator: whole numbers, rows, slices. -/
import Derived.Test.YtgfohimonbagmaaGreatDoorAMFast1
namespace Go.AM.F

theorem ikN_inj {a b : IntKind} (h : Nat.beq (ikN a) (ikN b) = true) : a = b := by
  cases a <;> cases b <;> first | rfl | (exact absurd h (by decide))

theorem onIntD_cases (v : V) (f : IntKind → Int → R) (d : R) : (∃ kd z, v = .int kd z ∧ onIntD v f d = f kd z) ∨ onIntD v f d = d := by
  cases v <;> first | exact .inl ⟨_, _, rfl, rfl⟩ | exact .inr rfl

theorem onInts_some {f : IntKind → Int → Int → (V → R) → R} {g : V → V → (V → R) → R} {x y : V} {k : V → R} {r : V} (h : onInts f g x y k = some r) :
    (∃ kd a b, x = .int kd a ∧ y = .int kd b ∧ f kd a b k = some r) ∨ g x y k = some r := by
  unfold onInts at h
  rcases onIntD_cases x (fun kd a => onIntD y (fun kd' b => Bool.rec (g x y k) (f kd a b k) (Nat.beq (ikN kd) (ikN kd'))) (g x y k)) (g x y k) with ⟨kd, a, hx, e⟩ | e
  · rw [e] at h
    rcases onIntD_cases y (fun kd' b => Bool.rec (g x y k) (f kd a b k) (Nat.beq (ikN kd) (ikN kd'))) (g x y k) with ⟨kd', b, hy, e2⟩ | e2
    · rw [e2] at h
      cases hb : Nat.beq (ikN kd) (ikN kd') with
      | false => rw [hb] at h; exact .inr h
      | true =>
        rw [hb] at h
        obtain rfl := ikN_inj hb
        exact .inl ⟨kd, a, b, hx, hy, h⟩
    · rw [e2] at h; exact .inr h
  · rw [e] at h; exact .inr h

theorem blt_false {a b : Nat} (h : Nat.blt a b = false) : ¬ a < b := fun hl => by rw [blt_true.2 hl] at h; cases h

theorem wrapS_eq {lim : Nat} {kd : IntKind} (h1 : ∀ n : Nat, n < lim → kd.wrap (.ofNat n) = .ofNat n) (h2 : ∀ n : Nat, n < lim → kd.wrap (.negSucc n) = .negSucc n) (z : Int) (k : Int → R) : wrapS lim kd z k = k (kd.wrap z) := by
  cases z with
  | ofNat n =>
    show (Bool.rec (forceZ (kd.wrap (.ofNat n)) k) (forceN n fun n => k (.ofNat n)) (Nat.blt n lim) : R) = _
    rw [forceZ_eq, forceN_eq]
    cases hb : Nat.blt n lim with
    | false => rfl
    | true => rw [h1 n (blt_true.1 hb)]
  | negSucc n =>
    show (Bool.rec (forceZ (kd.wrap (.negSucc n)) k) (forceN n fun n => k (.negSucc n)) (Nat.blt n lim) : R) = _
    rw [forceZ_eq, forceN_eq]
    cases hb : Nat.blt n lim with
    | false => rfl
    | true => rw [h2 n (blt_true.1 hb)]

theorem wrapU_eq {lim : Nat} {kd : IntKind} (h1 : ∀ n : Nat, kd.wrap (.ofNat n) = .ofNat (n % lim)) (z : Int) (k : Int → R) : wrapU lim kd z k = k (kd.wrap z) := by
  cases z with
  | ofNat n =>
    show forceN (Nat.mod n lim) (fun n => k (.ofNat n)) = _
    rw [forceN_eq, h1]; rfl
  | negSucc n => exact forceZ_eq _ _

theorem wrap_signed {kd : IntKind} {M H : Int} (hs : kd.signed = true) (e1 : (2 : Int) ^ kd.bits = M) (e2 : (2 : Int) ^ (kd.bits - 1) = H) (z : Int) : kd.wrap z = if z % M ≥ H then z % M - M else z % M := by
  unfold IntKind.wrap
  rw [e1, e2, hs]; simp
theorem wrap_unsigned {kd : IntKind} {M : Int} (hs : kd.signed = false) (e1 : (2 : Int) ^ kd.bits = M) (z : Int) : kd.wrap z = z % M := by
  unfold IntKind.wrap
  rw [e1, hs]; simp

theorem wrapK_eq (kd : IntKind) (z : Int) (k : Int → R) : wrapK kd z k = k (kd.wrap z) := by
  cases kd
  case i8 => exact wrapS_eq (kd := .i8) (fun n hn => by
      rw [wrap_signed (kd := .i8) (M := 256) (H := 128) rfl rfl rfl]
      show (if (n : Int) % 256 ≥ 128 then (n : Int) % 256 - 256 else (n : Int) % 256) = (n : Int)
      split <;> omega) (fun n hn => by
      rw [wrap_signed (kd := .i8) (M := 256) (H := 128) rfl rfl rfl]
      rw [Int.negSucc_eq]
      split <;> omega)               z k
  case i16 => exact wrapS_eq (kd := .i16) (fun n hn => by
      rw [wrap_signed (kd := .i16) (M := 65536) (H := 32768) rfl rfl rfl]
      show (if (n : Int) % 65536 ≥ 32768 then (n : Int) % 65536 - 65536 else (n : Int) % 65536) = (n : Int)
      split <;> omega) (fun n hn => by
      rw [wrap_signed (kd := .i16) (M := 65536) (H := 32768) rfl rfl rfl]
      rw [Int.negSucc_eq]
      split <;> omega)               z k
  case i32 => exact wrapS_eq (kd := .i32) (fun n hn => by
      rw [wrap_signed (kd := .i32) (M := 4294967296) (H := 2147483648) rfl rfl rfl]
      show (if (n : Int) % 4294967296 ≥ 2147483648 then (n : Int) % 4294967296 - 4294967296 else (n : Int) % 4294967296) = (n : Int)
      split <;> omega) (fun n hn => by
      rw [wrap_signed (kd := .i32) (M := 4294967296) (H := 2147483648) rfl rfl rfl]
      rw [Int.negSucc_eq]
      split <;> omega)               z k
  case i64 => exact wrapS_eq (kd := .i64) (fun n hn => by
      rw [wrap_signed (kd := .i64) (M := 18446744073709551616) (H := 9223372036854775808) rfl rfl rfl]
      show (if (n : Int) % 18446744073709551616 ≥ 9223372036854775808 then (n : Int) % 18446744073709551616 - 18446744073709551616 else (n : Int) % 18446744073709551616) = (n : Int)
      split <;> omega) (fun n hn => by
      rw [wrap_signed (kd := .i64) (M := 18446744073709551616) (H := 9223372036854775808) rfl rfl rfl]
      rw [Int.negSucc_eq]
      split <;> omega)               z k
  case u8 => exact wrapU_eq (kd := .u8) (fun n => by
      rw [wrap_unsigned (kd := .u8) (M := 256) rfl rfl]
      show (n : Int) % 256 = ((n % 256 : Nat) : Int)
      omega)               z k
  case u16 => exact wrapU_eq (kd := .u16) (fun n => by
      rw [wrap_unsigned (kd := .u16) (M := 65536) rfl rfl]
      show (n : Int) % 65536 = ((n % 65536 : Nat) : Int)
      omega)               z k
  case u32 => exact wrapU_eq (kd := .u32) (fun n => by
      rw [wrap_unsigned (kd := .u32) (M := 4294967296) rfl rfl]
      show (n : Int) % 4294967296 = ((n % 4294967296 : Nat) : Int)
      omega)               z k
  case u64 => exact wrapU_eq (kd := .u64) (fun n => by
      rw [wrap_unsigned (kd := .u64) (M := 18446744073709551616) rfl rfl]
      show (n : Int) % 18446744073709551616 = ((n % 18446744073709551616 : Nat) : Int)
      omega)               z k

theorem natNat_eq {f : Nat → Nat → (Int → R) → R} {g : Int → Int → (Int → R) → R} {F : Int → Int → Int} (h1 : ∀ n m k, f n m k = k (F (.ofNat n) (.ofNat m))) (h2 : ∀ a b k, g a b k = k (F a b)) (a b : Int) (k : Int → R) : natNat f g a a b k = k (F a b) := by
  cases a with
  | ofNat n =>
    cases b with
    | ofNat m => exact h1 n m k
    | negSucc m => exact h2 _ _ k
  | negSucc n => exact h2 _ _ k

theorem addI_eq (kd : IntKind) (a b : Int) (k : V → R) : addI kd a b k = k (.int kd (kd.wrap (a + b))) :=
  natNat_eq (F := fun a b => kd.wrap (a + b)) (fun n m k => (wrapK_eq kd _ k).trans rfl) (fun a b k => forceZ_eq _ k) a b _
theorem mulI_eq (kd : IntKind) (a b : Int) (k : V → R) : mulI kd a b k = k (.int kd (kd.wrap (a * b))) :=
  natNat_eq (F := fun a b => kd.wrap (a * b)) (fun n m k => (wrapK_eq kd _ k).trans rfl) (fun a b k => forceZ_eq _ k) a b _
theorem subI_eq (kd : IntKind) (a b : Int) (k : V → R) : subI kd a b k = k (.int kd (kd.wrap (a - b))) :=
  natNat_eq (F := fun a b => kd.wrap (a - b)) (fun n m k => by
    show (Bool.rec (forceZ (kd.wrap (.ofNat n - .ofNat m)) k) (wrapK kd (.ofNat (Nat.sub n m)) k) (Nat.ble m n) : R) = _
    rw [forceZ_eq, wrapK_eq]
    cases hb : Nat.ble m n with
    | false => rfl
    | true =>
      have : m ≤ n := Nat.le_of_ble_eq_true hb
      have e : (Int.ofNat (Nat.sub n m)) = Int.ofNat n - Int.ofNat m := by
        show ((n - m : Nat) : Int) = (n : Int) - (m : Int); omega
      rw [e]) (fun a b k => forceZ_eq _ k) a b _
theorem bool_eq (b : Bool) (k : V → R) : (Bool.rec (k (.bool false)) (k (.bool true)) b : R) = k (.bool b) := by cases b <;> rfl
theorem cmpI_eq {f : Nat → Nat → Bool} {g : Int → Int → Bool} (h : ∀ n m : Nat, f n m = g (.ofNat n) (.ofNat m)) (a b : Int) (k : V → R) : cmpI f g a b k = k (.bool (g a b)) := by
  cases a with
  | ofNat n =>
    cases b with
    | ofNat m => exact (bool_eq (f n m) k).trans (by rw [h])
    | negSucc m => exact bool_eq _ k
  | negSucc n => exact bool_eq _ k

theorem ikbeq (k : IntKind) : (k == k) = true := by cases k <;> rfl

theorem binC_some {op : BinOp} {ty : Ty} {x y : V} {k : V → R} {r : V} (h : (binC op ty).f x y k = some r) : ∃ v, binV op ty x y = some v ∧ k v = some r := by
  have gen : ∀ op, orGen op ty x y k = some r → ∃ v, binV op ty x y = some v ∧ k v = some r := fun op h => ofOpt_some h
  have ints : ∀ op f, (∀ kd a b, ∃ v, binV op ty (.int kd a) (.int kd b) = some v ∧ f kd a b k = k v) → onInts f (orGen op ty) x y k = some r → ∃ v, binV op ty x y = some v ∧ k v = some r := by
    intro op f hf h
    rcases onInts_some h with ⟨kd, a, b, hx, hy, h'⟩ | h
    · obtain ⟨v, h1, h2⟩ := hf kd a b
      rw [hx, hy]
      exact ⟨v, h1, by rw [← h2]; exact h'⟩
    · exact gen op h
  cases op
  case add => exact ints _ _ (fun kd a b => ⟨_, by simp only [binV, ikbeq, if_true, intBin], addI_eq kd a b k⟩) h
  case sub => exact ints _ _ (fun kd a b => ⟨_, by simp only [binV, ikbeq, if_true, intBin], subI_eq kd a b k⟩) h
  case mul => exact ints _ _ (fun kd a b => ⟨_, by simp only [binV, ikbeq, if_true, intBin], mulI_eq kd a b k⟩) h
  case eql => exact ints _ _ (fun kd a b => ⟨_, by simp only [binV, ikbeq, if_true, intBin], cmpI_eq (fun n m => by
      show Nat.beq n m = ((n : Int) == (m : Int))
      rw [Bool.eq_iff_iff]; simp [Nat.beq_eq]; omega) a b k⟩) h
  case neq => exact ints _ _ (fun kd a b => ⟨_, by simp only [binV, ikbeq, if_true, intBin], cmpI_eq (fun n m => by
      show (Bool.rec true false (Nat.beq n m) : Bool) = ((n : Int) != (m : Int))
      cases hb : Nat.beq n m with
      | true => have := Nat.eq_of_beq_eq_true hb; subst this; simp
      | false => have := Nat.ne_of_beq_eq_false hb; simp; omega) a b k⟩) h
  case lss => exact ints _ _ (fun kd a b => ⟨_, by simp only [binV, ikbeq, if_true, intBin], cmpI_eq (fun n m => by
      show Nat.blt n m = decide ((n : Int) < (m : Int))
      rw [Bool.eq_iff_iff, blt_true]; simp) a b k⟩) h
  case leq => exact ints _ _ (fun kd a b => ⟨_, by simp only [binV, ikbeq, if_true, intBin], cmpI_eq (fun n m => by
      show Nat.ble n m = decide ((n : Int) ≤ (m : Int))
      rw [Bool.eq_iff_iff, Nat.ble_eq]; simp) a b k⟩) h
  case gtr => exact ints _ _ (fun kd a b => ⟨_, by simp only [binV, ikbeq, if_true, intBin], cmpI_eq (fun n m => by
      show Nat.blt m n = decide ((n : Int) > (m : Int))
      rw [Bool.eq_iff_iff, blt_true]; simp) a b k⟩) h
  case geq => exact ints _ _ (fun kd a b => ⟨_, by simp only [binV, ikbeq, if_true, intBin], cmpI_eq (fun n m => by
      show Nat.ble m n = decide ((n : Int) ≥ (m : Int))
      rw [Bool.eq_iff_iff, Nat.ble_eq]; simp) a b k⟩) h
  all_goals exact gen _ h

/-! Slices. -/
theorem boundsV_eq (e : Env) (len cap : Nat) (lo hi mx : Option O) : bounds e len cap lo hi mx = boundsV len cap (lo.map (ev e)) (hi.map (ev e)) (mx.map (ev e)) := by
  cases lo <;> cases hi <;> cases mx <;> rfl
theorem newCapV_eq (e : Env) (mx : Option O) (c : Option Nat) (n : Nat) : newCap mx c n = newCapV (mx.map (ev e)) c n := by
  cases mx <;> cases c <;> rfl
theorem sliceVV_eq (ik : Option IntKind) (sz : Nat) (e : Env) (x : V) (lo hi mx : Option O) : sliceV ik sz e x lo hi mx = sliceVV ik sz x (lo.map (ev e)) (hi.map (ev e)) (mx.map (ev e)) := by
  unfold sliceV sliceVV
  simp only [boundsV_eq, newCapV_eq e]
  cases x
  case sl b o s n cap => cases mx <;> cases cap <;> rfl
  all_goals (cases mx <;> rfl)

theorem optG_spec {d n : Nat} {t : ET V d} {e : Env} (h : RE d n t e) (x : Option O) (k : Option V → R) : optG d n x t k = k (x.map (ev e)) := by
  cases x with
  | none => rfl
  | some x => exact evC_spec h x _

theorem evsC_spec {d n : Nat} {t : ET V d} {e : Env} (h : RE d n t e) : ∀ (l : List O) (k : List V → R), evsC d n l t k = k (evs e l)
  | [], k => rfl
  | x :: l, k => by
    show (evC d n x).g t (fun v => evsC d n l t fun l => k (v :: l)) = _
    rw [evC_spec h, evsC_spec h l]; rfl

theorem fillC_some {d n : Nat} {t : ET V d} {e : Env} (h : RE d n t e) : ∀ {ps : List (Nat × Nat × O)} {zs : List V} {k : List V → R} {r : V}, (fillC d n ps).f t zs k = some r → ∃ l, fill e zs ps = some l ∧ k l = some r
  | [], zs, k, r, hk => ⟨zs, rfl, hk⟩
  | (off, size, x) :: ps, zs, k, r, hk => by
    have hk' : (evC d n x).g t (fun v => optK v.cells fun cs => condB (cs.length == size && decide (off + size ≤ zs.length)) (forceL (zs.take off ++ cs ++ zs.drop (off + size)) fun zs => (fillC d n ps).f t zs k) none) = some r := hk
    rw [evC_spec h] at hk'
    obtain ⟨cs, h1, h2⟩ := optK_some hk'
    obtain ⟨h3, h4⟩ := condB_some h2
    rw [forceL_eq] at h4
    obtain ⟨l, h5, h6⟩ := fillC_some h h4
    refine ⟨l, ?_, h6⟩
    simp only [fill, h1, h3, if_true]
    exact h5

/-! Rows. -/
theorem RC.set_int {kd : IntKind} {zs : List Int} {i : Nat} {z : Int} (hi : i < zs.length) : (RC.is kd zs).set i (.int kd z) = some (.is kd (zs.set i z)) := by
  simp [RC.set, ikbeq, hi]

theorem getRC_some {c : RC} {i : Nat} {k : V → R} {r : V} (h : getRC c i k = some r) : ∃ v, c.get i = some v ∧ k v = some r := by
  cases c with
  | is kd zs =>
    obtain ⟨z, h1, h2⟩ := nthK_some (l := zs) h
    obtain ⟨hi, rfl⟩ := List.getElem?_eq_some_iff.1 h1
    exact ⟨_, by simp [RC.get, hi], h2⟩
  | cs xs => exact nthK_some (l := xs) h

theorem setRC_some {c : RC} {i : Nat} {v : V} {k : RC → R} {r : V} (h : setRC c i v k = some r) : ∃ c', c.set i v = some c' ∧ k c' = some r := by
  cases c with
  | is kd zs =>
    have h' : onInt v (fun kd' z => Bool.rec none (setK zs z i fun zs => k (.is kd zs)) (Nat.beq (ikN kd) (ikN kd'))) = some r := h
    obtain ⟨kd', z, rfl, h1⟩ := onInt_some h'
    cases hb : Nat.beq (ikN kd) (ikN kd') with
    | false => rw [hb] at h1; cases h1
    | true =>
      rw [hb] at h1
      obtain rfl := ikN_inj hb
      obtain ⟨h2, h3⟩ := setK_some (l := zs) h1
      exact ⟨_, RC.set_int h2, h3⟩
  | cs xs =>
    have h' : (Bool.rec none (setK xs v i fun xs => k (.cs xs)) v.isCell : R) = some r := h
    cases hb : v.isCell with
    | false => rw [hb] at h'; cases h'
    | true =>
      rw [hb] at h'
      obtain ⟨h2, h3⟩ := setK_some (l := xs) h'
      exact ⟨_, by simp [RC.set, h2, hb], h3⟩

theorem onAddr_some {v : V} {f : Nat → Nat → R} {g : IntKind → List Int → Nat → R} {j : List V → Nat → R} {r : V} (h : onAddr v f g j = some r) :
    (∃ b o, v = .ptr b o ∧ f b o = some r) ∨ (∃ kd zs i, v = .pint kd zs i ∧ g kd zs i = some r) ∨ (∃ xs i, v = .plst xs i ∧ j xs i = some r) := by
  cases v <;> first | (cases h; done) | exact .inl ⟨_, _, rfl, h⟩ | exact .inr (.inl ⟨_, _, _, rfl, h⟩) | exact .inr (.inr ⟨_, _, rfl, h⟩)

theorem loadK_some {hf : HF} {h : H} (hr : RH hf h) {agg : Bool} {n : Nat} {a : V} {k : V → R} {r : V} (e : loadK hf agg n a k = some r) : ∃ v, loadV h agg n a = some v ∧ k v = some r := by
  rcases onAddr_some e with ⟨b, o, rfl, e⟩ | ⟨kd, zs, i, rfl, e⟩ | ⟨xs, i, rfl, e⟩
  · obtain ⟨q, h1, _, h2⟩ := row_some hr e
    cases agg with
    | false =>
      obtain ⟨v, h3, h4⟩ := getRC_some h2
      exact ⟨v, by simp [loadV, h1, h3], h4⟩
    | true =>
      obtain ⟨l, h3, h4⟩ := optK_some h2
      rw [forceL_eq] at h4
      exact ⟨_, by simp [loadV, h1, h3], h4⟩
  · cases agg with
    | false =>
      obtain ⟨z, h1, h2⟩ := nthK_some (l := zs) e
      obtain ⟨hi, rfl⟩ := List.getElem?_eq_some_iff.1 h1
      exact ⟨_, by simp [loadV, hi], h2⟩
    | true => cases e
  · cases agg with
    | false =>
      obtain ⟨z, h1, h2⟩ := nthK_some (l := xs) e
      exact ⟨z, by simp [loadV, h1], h2⟩
    | true =>
      obtain ⟨l, h3, h4⟩ := optK_some e
      rw [forceL_eq] at h4
      exact ⟨_, by simp [loadV, h3], h4⟩

end Go.AM.F
