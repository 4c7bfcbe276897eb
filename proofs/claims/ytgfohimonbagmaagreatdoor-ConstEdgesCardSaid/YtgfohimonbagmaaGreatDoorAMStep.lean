/- One operation at a time: lemmas for runs by hand. -/
import Derived.Test.YtgfohimonbagmaaGreatDoorAMSym
namespace Go.AM

/-- In int's range. -/
def In64 (n : Int) : Prop := -9223372036854775808 ≤ n ∧ n ≤ 9223372036854775807
theorem wrap64_eq {n : Int} (h : In64 n) : IntKind.i64.wrap n = n := by
  obtain ⟨h0, h1⟩ := h
  show IntKind.wrap .i64 n = n
  unfold IntKind.wrap
  simp only [IntKind.signed, IntKind.bits]
  have : (2 : Int) ^ 64 = 18446744073709551616 := by decide
  have h3 : (2 : Int) ^ (64 - 1) = 9223372036854775808 := by decide
  simp only [this, h3, Bool.true_and, decide_eq_true_eq]
  split <;> omega
theorem wrapU_eq {k : IntKind} (hk : k = .u32 ∨ k = .u64 ∨ k = .u8 ∨ k = .u16) {n : Int} (h0 : 0 ≤ n) (h1 : n < 2 ^ k.bits) : k.wrap n = n := by
  unfold IntKind.wrap
  rcases hk with rfl | rfl | rfl | rfl <;> simp only [IntKind.signed, Bool.false_and, Bool.false_eq_true, if_false] <;> exact Int.emod_eq_of_lt h0 h1

theorem then_normal {p q : Prop} (h : p) : X.then_ .normal p q := h
theorem then_exit {i : Nat} {p q : Prop} (h : q) : X.then_ (.exit i) p q := h
theorem then_ret {p q : Prop} (h : q) : X.then_ .ret p q := h
theorem hit_then {i : Nat} {p q : Prop} (h : p) : (unblock i (.exit i)).then_ p q := by simp only [unblock, if_true, X.then_]; exact h
theorem Wp.seq_reg {T : Tab} {e : Env} {h : H} {l : List Op} {b : C} {Q : X → Env → H → Prop} (p : goes T l e h fun e1 h1 => Wp T b e1 h1 Q) : Wp T (.seq (.reg l) b) e h Q := Wp.seq (Wp.reg (Q := fun x e1 h1 => x.then_ (Wp T b e1 h1 Q) (Q x e1 h1)) p)
theorem Wp.seq_regd {T : Tab} {e : Env} {h : H} {l : List OpD} {b : C} {Q : X → Env → H → Prop} (hw : (l.all fun o => o.watch.isEmpty) = true) (p : goes T (l.map (·.op)) e h fun e1 h1 => Wp T b e1 h1 Q) : Wp T (.seq (.regd l) b) e h Q :=
  Wp.seq (Wp.regd (Q := fun x e1 h1 => x.then_ (Wp T b e1 h1 Q) (Q x e1 h1)) hw p)

section
variable {T : Tab} {e : Env} {h : H} {Q : Env → H → Prop} {d : Option Nat} {g : Option (Nat × Bool)} {l : List Op} {x y : O}

theorem goes_nil (p : Q e h) : goes T [] e h Q := p
theorem goes_off {i : I} (hg : asked e g = some false) (p : goes T l (e.put d (.tup [])) h Q) : goes T (⟨d, i, g⟩ :: l) e h Q := by
  cases i <;> (simp only [goes, hg, abind]; exact p)
theorem goes_op {i : I} {v : V} {h1 : H} (hp : i.plain = true) (hg : asked e g = some true) (hi : iop e h i = some (v, h1)) (p : goes T l (e.put d v) h1 Q) : goes T (⟨d, i, g⟩ :: l) e h Q := by
  cases i <;> first | (cases hp; done) | (simp only [goes, hg, abind, hi, obind]; exact p)
theorem goes_call {f : FuncId} {args : List O} {vs : List V} (hg : asked e g = some true) (ha : evs e args = vs) (p : Cl T f vs h fun v h1 => goes T l (e.put d v) h1 Q) : goes T (⟨d, .call f args, g⟩ :: l) e h Q := by
  subst ha; simp only [goes, hg, abind]; exact p
theorem goes_mv {v : V} (hg : asked e g = some true) (hx : ev e x = v) (p : goes T l (e.put d v) h Q) : goes T (⟨d, .mv x, g⟩ :: l) e h Q :=
  goes_op rfl hg (by simp only [iop, hx]) p
theorem goes_pick {c : O} {t : Bool} {v : V} (hg : asked e g = some true) (hc : ev e c = .bool t) (hv : (if t then ev e x else ev e y) = v) (p : goes T l (e.put d v) h Q) : goes T (⟨d, .pick c x y, g⟩ :: l) e h Q :=
  goes_op rfl hg (by simp only [iop, hc, hv]) p

/-! Comparisons. -/
section
variable {k : IntKind} {a b : Int} {ty : Ty}
theorem goes_lss_t (hg : asked e g = some true) (hx : ev e x = .int k a) (hy : ev e y = .int k b) (hc : a < b) (p : goes T l (e.put d (.bool true)) h Q) : goes T (⟨d, .bin .lss ty x y, g⟩ :: l) e h Q :=
  goes_op rfl hg (by simp [iop, hx, hy, binV, intBin, hc]) p
theorem goes_lss_f (hg : asked e g = some true) (hx : ev e x = .int k a) (hy : ev e y = .int k b) (hc : ¬ a < b) (p : goes T l (e.put d (.bool false)) h Q) : goes T (⟨d, .bin .lss ty x y, g⟩ :: l) e h Q :=
  goes_op rfl hg (by simp [iop, hx, hy, binV, intBin]; omega) p
theorem goes_leq_t (hg : asked e g = some true) (hx : ev e x = .int k a) (hy : ev e y = .int k b) (hc : a ≤ b) (p : goes T l (e.put d (.bool true)) h Q) : goes T (⟨d, .bin .leq ty x y, g⟩ :: l) e h Q :=
  goes_op rfl hg (by simp [iop, hx, hy, binV, intBin, hc]) p
theorem goes_leq_f (hg : asked e g = some true) (hx : ev e x = .int k a) (hy : ev e y = .int k b) (hc : ¬ a ≤ b) (p : goes T l (e.put d (.bool false)) h Q) : goes T (⟨d, .bin .leq ty x y, g⟩ :: l) e h Q :=
  goes_op rfl hg (by simp [iop, hx, hy, binV, intBin]; omega) p
theorem goes_gtr_t (hg : asked e g = some true) (hx : ev e x = .int k a) (hy : ev e y = .int k b) (hc : a > b) (p : goes T l (e.put d (.bool true)) h Q) : goes T (⟨d, .bin .gtr ty x y, g⟩ :: l) e h Q :=
  goes_op rfl hg (by simp [iop, hx, hy, binV, intBin]; omega) p
theorem goes_gtr_f (hg : asked e g = some true) (hx : ev e x = .int k a) (hy : ev e y = .int k b) (hc : ¬ a > b) (p : goes T l (e.put d (.bool false)) h Q) : goes T (⟨d, .bin .gtr ty x y, g⟩ :: l) e h Q :=
  goes_op rfl hg (by simp [iop, hx, hy, binV, intBin]; omega) p
theorem goes_geq_t (hg : asked e g = some true) (hx : ev e x = .int k a) (hy : ev e y = .int k b) (hc : a ≥ b) (p : goes T l (e.put d (.bool true)) h Q) : goes T (⟨d, .bin .geq ty x y, g⟩ :: l) e h Q :=
  goes_op rfl hg (by simp [iop, hx, hy, binV, intBin]; omega) p
theorem goes_geq_f (hg : asked e g = some true) (hx : ev e x = .int k a) (hy : ev e y = .int k b) (hc : ¬ a ≥ b) (p : goes T l (e.put d (.bool false)) h Q) : goes T (⟨d, .bin .geq ty x y, g⟩ :: l) e h Q :=
  goes_op rfl hg (by simp [iop, hx, hy, binV, intBin]; omega) p
theorem goes_eql_t (hg : asked e g = some true) (hx : ev e x = .int k a) (hy : ev e y = .int k b) (hc : a = b) (p : goes T l (e.put d (.bool true)) h Q) : goes T (⟨d, .bin .eql ty x y, g⟩ :: l) e h Q :=
  goes_op rfl hg (by simp [iop, hx, hy, binV, intBin, hc]) p
theorem goes_eql_f (hg : asked e g = some true) (hx : ev e x = .int k a) (hy : ev e y = .int k b) (hc : a ≠ b) (p : goes T l (e.put d (.bool false)) h Q) : goes T (⟨d, .bin .eql ty x y, g⟩ :: l) e h Q :=
  goes_op rfl hg (by simp [iop, hx, hy, binV, intBin, hc]) p
theorem goes_neq_t (hg : asked e g = some true) (hx : ev e x = .int k a) (hy : ev e y = .int k b) (hc : a ≠ b) (p : goes T l (e.put d (.bool true)) h Q) : goes T (⟨d, .bin .neq ty x y, g⟩ :: l) e h Q :=
  goes_op rfl hg (by simp [iop, hx, hy, binV, intBin, hc]) p
theorem goes_neq_f (hg : asked e g = some true) (hx : ev e x = .int k a) (hy : ev e y = .int k b) (hc : a = b) (p : goes T l (e.put d (.bool false)) h Q) : goes T (⟨d, .bin .neq ty x y, g⟩ :: l) e h Q :=
  goes_op rfl hg (by simp [iop, hx, hy, binV, intBin, hc]) p
end

/-! Arithmetic. -/
section
variable {a b : Int} {ty : Ty}
theorem goes_add (hg : asked e g = some true) (hx : ev e x = .int .i64 a) (hy : ev e y = .int .i64 b) (hr : In64 (a + b)) (p : goes T l (e.put d (.int .i64 (a + b))) h Q) : goes T (⟨d, .bin .add ty x y, g⟩ :: l) e h Q :=
  goes_op rfl hg (by simp [iop, hx, hy, binV, intBin, wrap64_eq hr]) p
theorem goes_sub (hg : asked e g = some true) (hx : ev e x = .int .i64 a) (hy : ev e y = .int .i64 b) (hr : In64 (a - b)) (p : goes T l (e.put d (.int .i64 (a - b))) h Q) : goes T (⟨d, .bin .sub ty x y, g⟩ :: l) e h Q :=
  goes_op rfl hg (by simp [iop, hx, hy, binV, intBin, wrap64_eq hr]) p
theorem goes_mul (hg : asked e g = some true) (hx : ev e x = .int .i64 a) (hy : ev e y = .int .i64 b) (hr : In64 (a * b)) (p : goes T l (e.put d (.int .i64 (a * b))) h Q) : goes T (⟨d, .bin .mul ty x y, g⟩ :: l) e h Q :=
  goes_op rfl hg (by simp [iop, hx, hy, binV, intBin, wrap64_eq hr]) p
/-- Whatever it wraps to. -/
theorem goes_addw {k : IntKind} {c : Int} (hg : asked e g = some true) (hx : ev e x = .int k a) (hy : ev e y = .int k b) (hr : k.wrap (a + b) = c) (p : goes T l (e.put d (.int k c)) h Q) : goes T (⟨d, .bin .add ty x y, g⟩ :: l) e h Q :=
  goes_op rfl hg (by simp [iop, hx, hy, binV, intBin, hr]) p
theorem goes_subw {k : IntKind} {c : Int} (hg : asked e g = some true) (hx : ev e x = .int k a) (hy : ev e y = .int k b) (hr : k.wrap (a - b) = c) (p : goes T l (e.put d (.int k c)) h Q) : goes T (⟨d, .bin .sub ty x y, g⟩ :: l) e h Q :=
  goes_op rfl hg (by simp [iop, hx, hy, binV, intBin, hr]) p
theorem goes_mulw {k : IntKind} {c : Int} (hg : asked e g = some true) (hx : ev e x = .int k a) (hy : ev e y = .int k b) (hr : k.wrap (a * b) = c) (p : goes T l (e.put d (.int k c)) h Q) : goes T (⟨d, .bin .mul ty x y, g⟩ :: l) e h Q :=
  goes_op rfl hg (by simp [iop, hx, hy, binV, intBin, hr]) p
theorem goes_toInt {k k' : IntKind} {c : Int} (hg : asked e g = some true) (hx : ev e x = .int k' a) (hr : k.wrap a = c) (p : goes T l (e.put d (.int k c)) h Q) : goes T (⟨d, .toInt k x, g⟩ :: l) e h Q :=
  goes_op rfl hg (by simp [iop, hx, hr]) p
end

/-! Slices that are data. -/
theorem goes_len_ints {k : IntKind} {nl : Bool} {zs : List Int} {cap : Option Nat} (hg : asked e g = some true) (hx : ev e x = .ints k nl zs cap) (p : goes T l (e.put d (.int .i64 zs.length)) h Q) : goes T (⟨d, .len x, g⟩ :: l) e h Q :=
  goes_op rfl hg (by simp only [iop, hx]) p
theorem goes_len_sl {b o sz n : Nat} {cap : Option Nat} (hg : asked e g = some true) (hx : ev e x = .sl b o sz n cap) (p : goes T l (e.put d (.int .i64 n)) h Q) : goes T (⟨d, .len x, g⟩ :: l) e h Q :=
  goes_op rfl hg (by simp only [iop, hx]) p
theorem goes_at_ints {k k' : IntKind} {nl : Bool} {zs : List Int} {cap : Option Nat} {n : Int} {j : Nat} (hg : asked e g = some true) (hx : ev e x = .ints k nl zs cap) (hy : ev e y = .int k' n) (hn : n = j) (hj : j < zs.length) (hnl : nl = false)
    (p : goes T l (e.put d (.pint k zs j)) h Q) : goes T (⟨d, .iaddrS 1 x y, g⟩ :: l) e h Q := by
  subst hn; subst hnl
  exact goes_op rfl hg (by simp [iop, hx, hy, elemAddr, hj]) p
theorem goes_load_pint {k : IntKind} {zs : List Int} {j n : Nat} {z : Int} (hg : asked e g = some true) (hx : ev e x = .pint k zs j) (hz : zs[j]? = some z) (p : goes T l (e.put d (.int k z)) h Q) : goes T (⟨d, .load false n x, g⟩ :: l) e h Q :=
  goes_op rfl hg (by
    obtain ⟨h1, h2⟩ := List.getElem?_eq_some_iff.1 hz
    simp [iop, hx, loadV, h1, h2]) p

end

/-- A slice of whole numbers, wherever it lies. -/
structure SlV (h : H) (x : V) (k : IntKind) (zs : List Int) (A : Nat → V) : Prop where
  ln : lenV x = some zs.length
  len : ∀ e o, ev e o = x → iop e h (.len o) = some (.int .i64 zs.length, h)
  at_ : ∀ (j : Nat) (k' : IntKind), j < zs.length → elemAddr 1 x (.int k' j) = some (A j)
  ld : ∀ j n (hj : j < zs.length), loadV h false n (A j) = some (.int k zs[j])
  el : elems h 1 x = some (.is k zs)

theorem SlV.ints {h : H} {k : IntKind} {nl : Bool} {zs : List Int} {cap : Option Nat} (hnl : nl = false ∨ zs = []) : SlV h (.ints k nl zs cap) k zs (fun j => .pint k zs j) := by
  refine ⟨rfl, fun e o he => by simp only [iop, he], fun j k' hj => ?_, fun j n hj => ?_, rfl⟩
  · rcases hnl with rfl | rfl
    · simp [elemAddr, hj]
    · simp at hj
  · simp [loadV, hj]

theorem SlV.sl {h : H} {b : Nat} {k : IntKind} {zs : List Int} {cap : Option Nat} {o n : Nat} {ws : List Int} {ver : Nat} (hr : h.row b = some ⟨.is k ws, ver, false⟩) (hz : zs = (ws.drop o).take n) (hn : o + n ≤ ws.length) : SlV h (.sl b o 1 n cap) k zs (fun j => .ptr b (o + j)) := by
  have hlen : zs.length = n := by subst hz; simp; omega
  refine ⟨by simp [lenV, hlen], fun e o' he => by simp only [iop, he, hlen], fun j k' hj => ?_, fun j m hj => ?_, ?_⟩
  · have : (j : Int) < n := by omega
    simp [elemAddr, this]
  · have h1 : o + j < ws.length := by omega
    simp [loadV, hr, RC.get, h1]
    subst hz
    simp
  · simp [elems, hr, hn, hz]

section
variable {T : Tab} {e : Env} {h : H} {Q : Env → H → Prop} {d : Option Nat} {g : Option (Nat × Bool)} {l : List Op} {x y : O} {v : V} {k k' : IntKind} {zs : List Int} {A : Nat → V}
theorem goes_len_v (S : SlV h v k zs A) (hg : asked e g = some true) (hx : ev e x = v) (p : goes T l (e.put d (.int .i64 zs.length)) h Q) : goes T (⟨d, .len x, g⟩ :: l) e h Q :=
  goes_op rfl hg (S.len _ _ hx) p
theorem goes_at_v (S : SlV h v k zs A) (j : Nat) {n : Int} (hg : asked e g = some true) (hx : ev e x = v) (hy : ev e y = .int k' n) (hn : n = j) (hj : j < zs.length) (p : goes T l (e.put d (A j)) h Q) : goes T (⟨d, .iaddrS 1 x y, g⟩ :: l) e h Q := by
  subst hn
  exact goes_op rfl hg (by simp only [iop, hx, hy, S.at_ j k' hj]) p
theorem goes_ld_v (S : SlV h v k zs A) (j : Nat) {n : Nat} {z : Int} (hg : asked e g = some true) (hx : ev e x = A j) (hj : j < zs.length) (hz : zs[j] = z) (p : goes T l (e.put d (.int k z)) h Q) : goes T (⟨d, .load false n x, g⟩ :: l) e h Q := by
  subst hz
  exact goes_op rfl hg (by simp only [iop, hx, S.ld j n hj]) p
end

/-- A call by a short cut. -/
theorem Cl.short {T : Tab} {f : FuncId} {Φ : List V → Option V} {args : List V} {h : H} {v : V} {R : V → H → Prop} (hK : T.K f = none) (hJ : T.J f = some Φ) (hd : allData args = true) (hv : Φ args = some v) (p : R v h) : Cl T f args h R :=
  ⟨0, v, h, by simp only [callF, hK, Go.AM.short, hJ, hd, if_true, hv], p⟩
end Go.AM
