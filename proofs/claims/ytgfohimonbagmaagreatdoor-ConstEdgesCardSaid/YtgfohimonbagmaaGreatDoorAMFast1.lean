/- The fast evaluator: its trees, its slots, its heap. -/
import Derived.Test.YtgfohimonbagmaaGreatDoorAMFast
import Derived.Test.YtgfohimonbagmaaGreatDoorAMMono
namespace Go.AM.F

def kid {α : Type} : N α → Nat → α
  | .mk a0 _ _ _ _ _ _ _, 0 => a0
  | .mk _ a1 _ _ _ _ _ _, 1 => a1
  | .mk _ _ a2 _ _ _ _ _, 2 => a2
  | .mk _ _ _ a3 _ _ _ _, 3 => a3
  | .mk _ _ _ _ a4 _ _ _, 4 => a4
  | .mk _ _ _ _ _ a5 _ _, 5 => a5
  | .mk _ _ _ _ _ _ a6 _, 6 => a6
  | .mk _ _ _ _ _ _ _ a7, _ => a7
def setKid {α : Type} (x : α) : N α → Nat → N α
  | .mk _ a1 a2 a3 a4 a5 a6 a7, 0 => .mk x a1 a2 a3 a4 a5 a6 a7
  | .mk a0 _ a2 a3 a4 a5 a6 a7, 1 => .mk a0 x a2 a3 a4 a5 a6 a7
  | .mk a0 a1 _ a3 a4 a5 a6 a7, 2 => .mk a0 a1 x a3 a4 a5 a6 a7
  | .mk a0 a1 a2 _ a4 a5 a6 a7, 3 => .mk a0 a1 a2 x a4 a5 a6 a7
  | .mk a0 a1 a2 a3 _ a5 a6 a7, 4 => .mk a0 a1 a2 a3 x a5 a6 a7
  | .mk a0 a1 a2 a3 a4 _ a6 a7, 5 => .mk a0 a1 a2 a3 a4 x a6 a7
  | .mk a0 a1 a2 a3 a4 a5 _ a7, 6 => .mk a0 a1 a2 a3 a4 a5 x a7
  | .mk a0 a1 a2 a3 a4 a5 a6 _, _ => .mk a0 a1 a2 a3 a4 a5 a6 x

theorem lt8 {j : Nat} (h : j < 8) : j = 0 ∨ j = 1 ∨ j = 2 ∨ j = 3 ∨ j = 4 ∨ j = 5 ∨ j = 6 ∨ j = 7 := by omega

theorem kid_set {α : Type} (x : α) (t : N α) {j l : Nat} (hj : j < 8) (hl : l < 8) : kid (setKid x t j) l = if j = l then x else kid t l := by
  cases t
  rcases lt8 hj with rfl | rfl | rfl | rfl | rfl | rfl | rfl | rfl <;> rcases lt8 hl with rfl | rfl | rfl | rfl | rfl | rfl | rfl | rfl <;> rfl

def at_ {α : Type} : (d : Nat) → ET α d → Nat → α
  | 0, t, _ => t
  | d + 1, t, i => at_ d (kid t (i % 8)) (i / 8)
def upd {α : Type} (v : α) : (d : Nat) → ET α d → Nat → ET α d
  | 0, _, _ => v
  | d + 1, t, i => setKid (upd v d (kid t (i % 8)) (i / 8)) t (i % 8)

theorem at_upd {α : Type} (v : α) : ∀ (d : Nat) (t : ET α d) (i j : Nat), i < 8 ^ d → j < 8 ^ d → at_ d (upd v d t i) j = if i = j then v else at_ d t j
  | 0, t, i, j, hi, hj => by
    have : i = j := by simp at hi hj; omega
    rw [if_pos this]; rfl
  | d + 1, t, i, j, hi, hj => by
    have hi' : i / 8 < 8 ^ d := by rw [Nat.pow_succ] at hi; omega
    have hj' : j / 8 < 8 ^ d := by rw [Nat.pow_succ] at hj; omega
    have key : ∀ t : N (ET α d), at_ d (kid (setKid (upd v d (kid t (i % 8)) (i / 8)) t (i % 8)) (j % 8)) (j / 8) = if i = j then v else at_ d (kid t (j % 8)) (j / 8) := by
      intro t
      rw [kid_set _ _ (Nat.mod_lt _ (by decide)) (Nat.mod_lt _ (by decide))]
      by_cases h : i % 8 = j % 8
      · rw [if_pos h, at_upd v d _ _ _ hi' hj']
        by_cases h2 : i / 8 = j / 8
        · rw [if_pos h2, if_pos (by omega)]
        · rw [if_neg h2, if_neg (by omega), h]
      · rw [if_neg h, if_neg (fun e => h (by rw [e]))]
    exact key t

theorem at_all {α : Type} (v : α) : ∀ (d i : Nat), at_ d (ET.all v d) i = v
  | 0, _ => rfl
  | d + 1, i => by
    show at_ d (kid (.mk (ET.all v d) (ET.all v d) (ET.all v d) (ET.all v d) (ET.all v d) (ET.all v d) (ET.all v d) (ET.all v d)) (i % 8)) (i / 8) = v
    have : kid (.mk (ET.all v d) (ET.all v d) (ET.all v d) (ET.all v d) (ET.all v d) (ET.all v d) (ET.all v d) (ET.all v d)) (i % 8) = ET.all v d := by
      rcases lt8 (Nat.mod_lt i (by decide : 0 < 8)) with h | h | h | h | h | h | h | h <;> rw [h] <;> rfl
    rw [this]; exact at_all v d _

theorem getStep_spec {α : Type} {d : Nat} (g : ET α d → (α → R) → R) {j : Nat} (hj : j < 8) (t : N (ET α d)) (k : α → R) : (getStep g j).g t k = g (kid t j) k := by
  cases t
  rcases lt8 hj with rfl | rfl | rfl | rfl | rfl | rfl | rfl | rfl <;> rfl
theorem setStep_spec {α : Type} {d : Nat} (s : α → ET α d → (ET α d → R) → R) {j : Nat} (hj : j < 8) (v : α) (t : N (ET α d)) (k : N (ET α d) → R) : (setStep s j).s v t k = s v (kid t j) (fun x => k (setKid x t j)) := by
  cases t
  rcases lt8 hj with rfl | rfl | rfl | rfl | rfl | rfl | rfl | rfl <;> rfl

theorem getC_spec (α : Type) : ∀ (d i : Nat) (t : ET α d) (k : α → R), (getC α d i).g t k = k (at_ d t i)
  | 0, i, t, k => rfl
  | d + 1, i, t, k => by
    have h1 : (getC α (d + 1) i).g t k = (getStep (getC α d (i / 8)).g (i % 8)).g t k := rfl
    rw [h1, getStep_spec _ (Nat.mod_lt _ (by decide)) t k, getC_spec α d (i / 8)]
    rfl

theorem setC_spec (α : Type) : ∀ (d i : Nat) (v : α) (t : ET α d) (k : ET α d → R), (setC α d i).s v t k = k (upd v d t i)
  | 0, i, v, t, k => rfl
  | d + 1, i, v, t, k => by
    have h1 : (setC α (d + 1) i).s v t k = (setStep (setC α d (i / 8)).s (i % 8)).s v t k := rfl
    rw [h1, setStep_spec _ (Nat.mod_lt _ (by decide)) v t k, setC_spec α d (i / 8)]
    rfl

/-! What forces is nothing else. -/
theorem forceN_eq (n : Nat) (k : Nat → R) : forceN n k = k n := by cases n <;> rfl
theorem forceZ_eq (z : Int) (k : Int → R) : forceZ z k = k z := by
  cases z <;> exact forceN_eq _ _
theorem forceV_eq (v : V) (k : V → R) : forceV v k = k v := by
  cases v
  case bool b => cases b <;> rfl
  case int kd z => exact forceZ_eq z _
  case ptr b o => exact (forceN_eq b _).trans (forceN_eq o _)
  case pint kd zs i => exact forceN_eq i _
  case plst xs i => exact forceN_eq i _
  case sl b o sz n c => exact (forceN_eq b _).trans ((forceN_eq o _).trans (forceN_eq n _))
  case lst sz nl n xs c => exact forceN_eq n _
  case map b => exact forceN_eq b _
  all_goals rfl
theorem forceL_eq {α : Type} : ∀ (l : List α) (k : List α → R), forceL l k = k l
  | [], k => rfl
  | x :: l, k => forceL_eq l (fun r => k (x :: r))
theorem forceRC_eq (c : RC) (k : RC → R) : forceRC c k = k c := by
  cases c <;> exact forceL_eq _ _
theorem forceA_eq (v : V) (k : V → R) : forceA v k = k v := by
  cases v
  case ints kd nl zs c => exact forceL_eq zs _
  case lst sz nl n xs c => exact (forceL_eq xs _).trans (forceN_eq n _)
  case agg xs => exact forceL_eq xs _
  case str l => exact forceL_eq l _
  all_goals (simp only [forceA]; exact forceV_eq _ k)
theorem optK_some {α : Type} {o : Option α} {k : α → R} {r : V} (h : optK o k = some r) : ∃ x, o = some x ∧ k x = some r := by
  cases o with
  | none => cases h
  | some x => exact ⟨x, rfl, h⟩
theorem condB_some {b : Bool} {x : R} {r : V} (h : condB b x none = some r) : b = true ∧ x = some r := by
  cases b with
  | false => cases h
  | true => exact ⟨rfl, h⟩
theorem condB_eq (b : Bool) (x y : R) : condB b x y = if b then x else y := by cases b <;> rfl
theorem ofOpt_some {o : Option V} {k : V → R} {r : V} (h : ofOpt o k = some r) : ∃ x, o = some x ∧ k x = some r := by
  obtain ⟨x, h1, h2⟩ := optK_some h
  rw [forceV_eq] at h2
  exact ⟨x, h1, h2⟩
theorem ofOptA_some {o : Option V} {k : V → R} {r : V} (h : ofOptA o k = some r) : ∃ x, o = some x ∧ k x = some r := by
  obtain ⟨x, h1, h2⟩ := optK_some h
  rw [forceA_eq] at h2
  exact ⟨x, h1, h2⟩
theorem onInt_some {v : V} {k : IntKind → Int → R} {r : V} (h : onInt v k = some r) : ∃ kd z, v = .int kd z ∧ k kd z = some r := by
  cases v <;> first | (cases h; done) | exact ⟨_, _, rfl, h⟩
theorem nthK_some {α : Type} : ∀ {l : List α} {i : Nat} {k : α → R} {r : V}, nthK l i k = some r → ∃ x, l[i]? = some x ∧ k x = some r
  | [], i, k, r, h => by cases h
  | x :: l, 0, k, r, h => ⟨x, rfl, h⟩
  | x :: l, i + 1, k, r, h => nthK_some (l := l) h
theorem setK_some {α : Type} : ∀ {l : List α} {v : α} {i : Nat} {k : List α → R} {r : V}, setK l v i k = some r → i < l.length ∧ k (l.set i v) = some r
  | [], v, i, k, r, h => by cases h
  | x :: l, v, 0, k, r, h => ⟨by simp, h⟩
  | x :: l, v, i + 1, k, r, h => by
    obtain ⟨h1, h2⟩ := setK_some (l := l) (k := fun r' => k (x :: r')) h
    exact ⟨by simp; omega, h2⟩

/-! Slots. -/

/-- Slots in a tree. -/
structure RE (d n : Nat) (t : ET V d) (e : Env) : Prop where
  cap : n ≤ 8 ^ d
  len : e.length = n
  get : ∀ i, i < n → at_ d t i = e.get i

theorem get_ge : ∀ (e : Env) (i : Nat), e.length ≤ i → e.get i = .undef
  | [], _, _ => rfl
  | _ :: _, 0, h => by simp at h
  | _ :: e, i + 1, h => get_ge e i (by simpa using h)

theorem evC_spec {d n : Nat} {t : ET V d} {e : Env} (h : RE d n t e) (x : O) (k : V → R) : (evC d n x).g t k = k (ev e x) := by
  cases x with
  | c v => rfl
  | t i =>
    show (if i < n then getC V d i else ⟨fun _ k => k .undef⟩ : G V d).g t k = k (e.get i)
    by_cases hi : i < n
    · rw [if_pos hi, getC_spec, h.get i hi]
    · rw [if_neg hi, get_ge e i (by rw [h.len]; omega)]

theorem setlen : ∀ (e : Env) (i : Nat) (v : V), (e.set i v).length = e.length
  | [], _, _ => by cases ‹Nat› <;> rfl
  | _ :: _, 0, _ => rfl
  | _ :: e, i + 1, v => by simp only [Env.set, List.length_cons]; rw [setlen e i v]
theorem setget : ∀ (e : Env) (i j : Nat) (v : V), (e.set i v).get j = if i = j ∧ i < e.length then v else e.get j
  | [], i, j, v => by cases i <;> simp [Env.set, Env.get]
  | x :: e, 0, 0, v => rfl
  | x :: e, 0, j + 1, v => by simp [Env.set, Env.get]
  | x :: e, i + 1, 0, v => by simp [Env.set, Env.get]
  | x :: e, i + 1, j + 1, v => by simp only [Env.set, Env.get]; rw [setget e i j v]; simp
theorem set_ge : ∀ (e : Env) (i : Nat) (v : V), e.length ≤ i → e.set i v = e
  | [], i, v, _ => by cases i <;> rfl
  | _ :: _, 0, _, h => by simp at h
  | x :: e, i + 1, v, h => by simp only [Env.set]; rw [set_ge e i v (by simpa using h)]

theorem putC_spec {d n : Nat} {t : ET V d} {e : Env} (h : RE d n t e) (o : Option Nat) (v : V) (k : ET V d → R) : ∃ t', (putC d n o).s v t k = k t' ∧ RE d n t' (e.put o v) := by
  cases o with
  | none => exact ⟨t, rfl, h⟩
  | some i =>
    unfold putC
    dsimp only
    split
    · rename_i hi
      refine ⟨upd v d t i, setC_spec V d i v t k, h.cap, ?_, fun j hj => ?_⟩
      · show (e.set i v).length = n
        rw [setlen, h.len]
      · have hc := h.cap
        rw [at_upd v d t i j (by omega) (by omega)]
        show _ = (e.set i v).get j
        rw [setget, h.len]
        by_cases hij : i = j
        · rw [if_pos hij, if_pos ⟨hij, hi⟩]
        · rw [if_neg hij, if_neg (fun x => hij x.1), h.get j hj]
    · rename_i hi
      refine ⟨t, rfl, ?_⟩
      show RE d n t (e.set i v)
      rw [set_ge e i v (by rw [h.len]; omega)]; exact h

/-! The heap. -/

structure RH (hf : HF) (h : H) : Prop where
  n : hf.n = h.rows.length
  clk : hf.clk = h.clk
  cap : hf.n ≤ 32768
  get : ∀ b, b < hf.n → h.rows[b]? = some (at_ 5 hf.t b)
  maps : hf.maps = h.maps

theorem RH.empty : RH .empty .empty := ⟨rfl, rfl, by decide, fun b hb => absurd hb (Nat.not_lt_zero b), rfl⟩

theorem blt_true {a b : Nat} : Nat.blt a b = true ↔ a < b := by
  unfold Nat.blt
  rw [Nat.ble_eq]
  omega

theorem row_some {hf : HF} {h : H} (hr : RH hf h) {b : Nat} {k : Row → R} {r : V} (e : hf.row b k = some r) : ∃ q, h.row b = some q ∧ b < hf.n ∧ k q = some r := by
  unfold HF.row at e
  cases hb : Nat.blt b hf.n with
  | false => rw [hb] at e; cases e
  | true =>
    rw [hb] at e
    have hlt := blt_true.1 hb
    have e' : (getC Row 5 b).g hf.t (fun r => Bool.rec (k r) none r.dead) = some r := e
    rw [getC_spec] at e'
    have hget := hr.get b hlt
    generalize at_ 5 hf.t b = q at e' hget
    cases hd : q.dead with
    | true => rw [hd] at e'; cases e'
    | false =>
      rw [hd] at e'
      exact ⟨q, by unfold H.row; rw [hget]; simp [hd], hlt, e'⟩

theorem put_spec {hf : HF} {h : H} (hr : RH hf h) {b : Nat} (hb : b < hf.n) (c : RC) (k : HF → R) : ∃ hf', hf.put b c k = k hf' ∧ RH hf' (h.put b c) := by
  obtain ⟨t, n, clk, maps⟩ := hf
  obtain ⟨h1, h2, h3, h4, h5⟩ := hr
  dsimp only at h1 h2 h3 h4 hb
  refine ⟨⟨upd ⟨c, clk, false⟩ 5 t b, n, clk + 1, maps⟩, ?_, ?_, ?_, h3, fun j hj => ?_, h5⟩
  · show (setC Row 5 b).s ⟨c, clk, false⟩ t _ = _
    rw [setC_spec, forceN_eq]
  · simp [H.put, h1]
  · simp [H.put, h2]
  · dsimp only at hj
    have := h4 j hj
    rw [at_upd _ 5 t b j (by omega) (by omega)]
    simp only [H.put, List.getElem?_set]
    by_cases e : b = j
    · subst e; rw [if_pos rfl, if_pos rfl, if_pos (by omega), h2]
    · rw [if_neg e, if_neg e]; exact this

theorem kill_spec {hf : HF} {h : H} (hr : RH hf h) {b : Nat} (hb : b < hf.n) (k : HF → R) : ∃ hf', hf.kill b k = k hf' ∧ RH hf' (h.kill b) := by
  obtain ⟨t, n, clk, maps⟩ := hf
  obtain ⟨h1, h2, h3, h4, h5⟩ := hr
  dsimp only at h1 h2 h3 h4 hb
  refine ⟨⟨upd ⟨.cs [], clk, true⟩ 5 t b, n, clk + 1, maps⟩, ?_, ?_, ?_, h3, fun j hj => ?_, h5⟩
  · show (setC Row 5 b).s ⟨.cs [], clk, true⟩ t _ = _
    rw [setC_spec, forceN_eq]
  · simp [H.kill, h1]
  · simp [H.kill, h2]
  · dsimp only at hj
    have := h4 j hj
    rw [at_upd _ 5 t b j (by omega) (by omega)]
    simp only [H.kill, List.getElem?_set]
    by_cases e : b = j
    · subst e; rw [if_pos rfl, if_pos rfl, if_pos (by omega), h2]
    · rw [if_neg e, if_neg e]; exact this

theorem new_some {hf : HF} {h : H} (hr : RH hf h) {c : RC} {k : Nat → HF → R} {r : V} (e : hf.new c k = some r) : ∃ hf', RH hf' (h.new c) ∧ k h.next hf' = some r := by
  obtain ⟨t, n, clk, maps⟩ := hf
  obtain ⟨h1, h2, h3, h4, h5⟩ := hr
  dsimp only at h1 h2 h3 h4
  have e' : (Bool.rec none ((setC Row 5 n).s ⟨c, clk, false⟩ t (fun t' => forceN (Nat.succ clk) (fun clk' => forceN (Nat.succ n) (fun n' => k n ⟨t', n', clk', maps⟩)))) (Nat.blt n 32768) : R) = some r := e
  cases hb : Nat.blt n 32768 with
  | false => rw [hb] at e'; cases e'
  | true =>
    rw [hb] at e'
    have hlt := blt_true.1 hb
    dsimp only at e'
    rw [setC_spec, forceN_eq, forceN_eq] at e'
    refine ⟨⟨upd ⟨c, clk, false⟩ 5 t n, n + 1, clk + 1, maps⟩, ⟨by simp [H.new, h1], by simp [H.new, h2], hlt, fun j hj => ?_, h5⟩, ?_⟩
    · dsimp only at hj
      rw [at_upd _ 5 t n j (by omega) (by omega)]
      simp only [H.new, List.getElem?_append]
      by_cases ej : n = j
      · subst ej
        rw [if_pos rfl, if_neg (by omega)]; simp [h1, h2]
      · rw [if_neg ej, if_pos (by omega)]; exact h4 j (by omega)
    · rw [show h.next = n from h1.symm]; exact e'

end Go.AM.F
