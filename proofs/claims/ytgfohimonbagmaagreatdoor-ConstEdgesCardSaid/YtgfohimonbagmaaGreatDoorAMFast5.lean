/- The fast evaluator: code, calls, runs. -/
import Derived.Test.YtgfohimonbagmaaGreatDoorAMFast4
namespace Go.AM.F

def CallOK (T : Tab) (call : Call) : Prop := ∀ f args hf h k r, RH hf h → call f args hf k = some r → ∃ N, Hs (callF T (exec T N) f args h) k r

theorem oper_iop {T : Tab} {ih : Exec} {e : Env} {h : H} {i : I} (h1 : ∀ f l, i ≠ .call f l) (h2 : ∀ f l, i ≠ .callv f l) : oper T ih e h i = iop e h i := by
  cases i
  case call => exact (h1 _ _ rfl).elim
  case callv => exact (h2 _ _ rfl).elim
  all_goals rfl

theorem io_some {T : Tab} {call : Call} (hc : CallOK T call) {d n : Nat} {t : ET V d} {e : Env} {hf : HF} {h : H} (he : RE d n t e) (hr : RH hf h) {i : I} {k : KC} {r : V} (x : (ioC d n i).f call t hf k = some r) : ∃ N, Hs (oper T (exec T N) e h i) k r := by
  by_cases h1 : ∃ f l, i = .call f l
  · obtain ⟨f, l, rfl⟩ := h1
    have x' : (evsC d n l t fun l => call f l hf k : R) = some r := x
    rw [evsC_spec he] at x'
    exact hc _ _ _ _ _ _ hr x'
  · by_cases h2 : ∃ f l, i = .callv f l
    · obtain ⟨o, l, rfl⟩ := h2
      have x' : ((evC d n o).g t fun x => evsC d n l t fun l => callK call x l hf k : R) = some r := x
      rw [evC_spec he, evsC_spec he] at x'
      unfold callK at x'
      split at x'
      · rename_i f fst cap hv
        rw [forceL_eq] at x'
        obtain ⟨N, hN⟩ := hc _ _ _ _ _ _ hr x'
        refine ⟨N, ?_⟩
        simp only [oper, hv]
        exact hN
      · cases x'
    · refine ⟨0, ?_⟩
      rw [oper_iop (fun f l e => h1 ⟨f, l, e⟩) (fun f l e => h2 ⟨f, l, e⟩)]
      exact iop_some he hr (fun f l e => h1 ⟨f, l, e⟩) (fun f l e => h2 ⟨f, l, e⟩) x

theorem askK_some {v : V} {w : Bool} {x y : R} {r : V} (h : askK v w x y = some r) : (∃ b, v = .bool b ∧ (if b == w then x else y) = some r) ∨ (∃ l, v = .tup l ∧ y = some r) := by
  cases v
  case bool b => cases b <;> cases w <;> exact .inl ⟨_, rfl, h⟩
  case tup l => exact .inr ⟨l, rfl, h⟩
  all_goals cases h

/-- What operations come to. -/
def Es (d n : Nat) (o : Option (Env × H)) (k : ET V d → HF → R) (r : V) : Prop := ∃ e' h' t' hf', o = some (e', h') ∧ RE d n t' e' ∧ RH hf' h' ∧ k t' hf' = some r

theorem opers_up {T : Tab} {N M : Nat} (h : N ≤ M) {l : List Op} {e : Env} {hh : H} {r} (x : opers T (exec T N) l e hh = some r) : opers T (exec T M) l e hh = some r := opers_mono (exec_mono T h) x
theorem oper_up {T : Tab} {N M : Nat} (h : N ≤ M) {i : I} {e : Env} {hh : H} {r} (x : oper T (exec T N) e hh i = some r) : oper T (exec T M) e hh i = some r := oper_mono (exec_mono T h) x

theorem os_some {T : Tab} {call : Call} (hc : CallOK T call) {d n : Nat} : ∀ {l : List Op} {t : ET V d} {e : Env} {hf : HF} {h : H} {k : ET V d → HF → R} {r : V}, RE d n t e → RH hf h → (osC d n l).f call t hf k = some r →
    ∃ N, Es d n (opers T (exec T N) l e h) k r
  | [], t, e, hf, h, k, r, he, hr, x => ⟨0, e, h, t, hf, rfl, he, hr, x⟩
  | ⟨dst, i, g⟩ :: l, t, e, hf, h, k, r, he, hr, x => by
    have on : asked e g = some true → ((ioC d n i).f call t hf fun v h => (putC d n dst).s v t fun e => (osC d n l).f call e h k) = some r → ∃ N, Es d n (opers T (exec T N) (⟨dst, i, g⟩ :: l) e h) k r := by
      intro ha x
      obtain ⟨N, v, h', hf', h1, h2, x2⟩ := io_some hc he hr x
      obtain ⟨t', h3, h4⟩ := putC_spec he dst v (fun e => (osC d n l).f call e hf' k)
      dsimp only at x2
      rw [h3] at x2
      obtain ⟨M, e2, h5, t2, hf2, h6, h7, h8, x3⟩ := os_some hc h4 h2 x2
      refine ⟨max N M, e2, h5, t2, hf2, ?_, h7, h8, x3⟩
      simp only [opers, ha]
      rw [oper_up (Nat.le_max_left N M) h1]
      exact opers_up (Nat.le_max_right N M) h6
    have off : asked e g = some false → ((putC d n dst).s (.tup []) t fun e => (osC d n l).f call e hf k) = some r → ∃ N, Es d n (opers T (exec T N) (⟨dst, i, g⟩ :: l) e h) k r := by
      intro ha x
      obtain ⟨t', h3, h4⟩ := putC_spec he dst (.tup []) (fun e => (osC d n l).f call e hf k)
      rw [h3] at x
      obtain ⟨M, e2, h5, t2, hf2, h6, h7, h8, x3⟩ := os_some hc h4 hr x
      refine ⟨M, e2, h5, t2, hf2, ?_, h7, h8, x3⟩
      simp only [opers, ha]
      exact h6
    cases g with
    | none => exact on rfl x
    | some g =>
      obtain ⟨g, w⟩ := g
      have x' : ((evC d n (.t g)).g t fun u => askK u w ((ioC d n i).f call t hf fun v h => (putC d n dst).s v t fun e => (osC d n l).f call e h k) ((putC d n dst).s (.tup []) t fun e => (osC d n l).f call e hf k) : R) = some r := x
      rw [evC_spec he] at x'
      rcases askK_some x' with ⟨b, h1, x2⟩ | ⟨q, h1, x2⟩
      · have h1' : e.get g = .bool b := h1
        cases hb : (b == w) with
        | true => rw [hb] at x2; exact on (by simp only [asked, h1', hb]) x2
        | false => rw [hb] at x2; exact off (by simp only [asked, h1', hb]) x2
      · have h1' : e.get g = .tup q := h1
        exact off (by simp only [asked, h1']) x2

theorem verK_eq {hf : HF} {h : H} (hr : RH hf h) (a : V) (k : Option Nat → R) : verK hf a k = k (verOf h a) := by
  unfold verK verOf
  split
  · rename_i b o
    show _ = k (match h.row b with | some r => some r.ver | none => none)
    cases hb : Nat.blt b hf.n with
    | false =>
      have hge := blt_false hb
      have : h.row b = none := by
        unfold H.row
        rw [List.getElem?_eq_none (by rw [← hr.n]; omega)]
      rw [this]
    | true =>
      have hget := hr.get b (blt_true.1 hb)
      show (getC Row 5 b).g hf.t (fun r => Bool.rec (k (some r.ver)) (k none) r.dead) = _
      rw [getC_spec]
      unfold H.row
      rw [hget]
      dsimp only
      cases (at_ 5 hf.t b).dead <;> rfl
  · rename_i hne
    split
    · exact (hne _ _ rfl).elim
    · rfl

theorem fineK_some {hf : HF} {h : H} (hr : RH hf h) {watch : List Nat} : ∀ {s : Seen} {k : R} {r : V}, fineK hf watch s k = some r → Seen.fine h watch s = true ∧ k = some r
  | [], k, r, x => ⟨rfl, x⟩
  | (i, a, v) :: s, k, r, x => by
    simp only [fineK] at x
    rw [verK_eq hr, condB_eq] at x
    simp only [Seen.fine]
    split at x
    · rename_i hw
      obtain ⟨h1, x2⟩ := condB_some x
      obtain ⟨h2, x3⟩ := fineK_some hr x2
      exact ⟨by rw [if_pos hw]; simp only [Bool.and_eq_true]; exact ⟨h1, h2⟩, x3⟩
    · rename_i hw
      obtain ⟨h2, x3⟩ := fineK_some hr x
      exact ⟨by rw [if_neg hw, h2]; rfl, x3⟩

theorem readsC_eq {d n no : Nat} {t : ET V d} {e : Env} (he : RE d n t e) {hf : HF} {h : H} (hr : RH hf h) (i : I) (s : Seen) (k : Seen → R) :
    readsC d n no i t hf s k = k (match i.reads e with | some a => (no, a, verOf h a) :: s | none => s) := by
  cases i
  case load agg m a =>
    show ((evC d n a).g t fun a => verK hf a fun v => optK (some v) fun v => k ((no, a, v) :: s)) = _
    rw [evC_spec he, verK_eq hr]; rfl
  all_goals rfl

theorem opersD_up {T : Tab} {N M : Nat} (h : N ≤ M) {l : List OpD} {s : Seen} {e : Env} {hh : H} {r} (x : opersD T (exec T N) l s e hh = some r) : opersD T (exec T M) l s e hh = some r := opersD_mono (exec_mono T h) x

theorem osd_some {T : Tab} {call : Call} (hc : CallOK T call) {d n : Nat} : ∀ {l : List OpD} {s : Seen} {t : ET V d} {e : Env} {hf : HF} {h : H} {k : ET V d → HF → R} {r : V}, RE d n t e → RH hf h → (osdC d n l).f call s t hf k = some r →
    ∃ N, Es d n (opersD T (exec T N) l s e h) k r
  | [], s, t, e, hf, h, k, r, he, hr, x => ⟨0, e, h, t, hf, rfl, he, hr, x⟩
  | ⟨no, ⟨dst, i, g⟩, watch⟩ :: l, s, t, e, hf, h, k, r, he, hr, x => by
    have on : asked e g = some true → ((ioC d n i).f call t hf fun v h' => fineK h' watch s (readsC d n no i t hf s fun s => (putC d n dst).s v t fun e => (osdC d n l).f call s e h' k)) = some r → ∃ N, Es d n (opersD T (exec T N) (⟨no, ⟨dst, i, g⟩, watch⟩ :: l) s e h) k r := by
      intro ha x
      obtain ⟨N, v, h', hf', h1, h2, x2⟩ := io_some hc he hr x
      obtain ⟨hfine, x3⟩ := fineK_some h2 x2
      rw [readsC_eq he hr] at x3
      obtain ⟨t', h3, h4⟩ := putC_spec he dst v (fun e' => (osdC d n l).f call (match i.reads e with | some a => (no, a, verOf h a) :: s | none => s) e' hf' k)
      rw [h3] at x3
      obtain ⟨M, e2, h5, t2, hf2, h6, h7, h8, x4⟩ := osd_some hc h4 h2 x3
      refine ⟨max N M, e2, h5, t2, hf2, ?_, h7, h8, x4⟩
      simp only [opersD, ha]
      rw [oper_up (Nat.le_max_left N M) h1]
      dsimp only
      rw [if_pos hfine]
      exact opersD_up (Nat.le_max_right N M) h6
    have off : asked e g = some false → ((putC d n dst).s (.tup []) t fun e => (osdC d n l).f call s e hf k) = some r → ∃ N, Es d n (opersD T (exec T N) (⟨no, ⟨dst, i, g⟩, watch⟩ :: l) s e h) k r := by
      intro ha x
      obtain ⟨t', h3, h4⟩ := putC_spec he dst (.tup []) (fun e => (osdC d n l).f call s e hf k)
      rw [h3] at x
      obtain ⟨M, e2, h5, t2, hf2, h6, h7, h8, x3⟩ := osd_some hc h4 hr x
      refine ⟨M, e2, h5, t2, hf2, ?_, h7, h8, x3⟩
      simp only [opersD, ha]
      exact h6
    cases g with
    | none => exact on rfl x
    | some g =>
      obtain ⟨g, w⟩ := g
      have x' : ((evC d n (.t g)).g t fun u => askK u w ((ioC d n i).f call t hf fun v h' => fineK h' watch s (readsC d n no i t hf s fun s => (putC d n dst).s v t fun e => (osdC d n l).f call s e h' k)) ((putC d n dst).s (.tup []) t fun e => (osdC d n l).f call s e hf k) : R) = some r := x
      rw [evC_spec he] at x'
      rcases askK_some x' with ⟨b, h1, x2⟩ | ⟨q, h1, x2⟩
      · have h1' : e.get g = .bool b := h1
        cases hb : (b == w) with
        | true => rw [hb] at x2; exact on (by simp only [asked, h1', hb]) x2
        | false => rw [hb] at x2; exact off (by simp only [asked, h1', hb]) x2
      · have h1' : e.get g = .tup q := h1
        exact off (by simp only [asked, h1']) x2

end Go.AM.F
