/- The fast evaluator: what looks at the heap, and every operation. -/
import Derived.Test.YtgfohimonbagmaaGreatDoorAMFast2
namespace Go.AM.F

theorem elemsK_some {hf : HF} {h : H} (hr : RH hf h) {sz : Nat} {v : V} {k : RC → R} {r : V} (e : elemsK hf sz v k = some r) : ∃ c, elems h sz v = some c ∧ k c = some r := by
  unfold elemsK at e
  split at e
  · obtain ⟨h1, h2⟩ := condB_some e
    exact ⟨_, by simp only [elems, h1, if_true], h2⟩
  · obtain ⟨h1, h2⟩ := condB_some e
    exact ⟨_, by simp only [elems, h1, if_true], h2⟩
  · obtain ⟨h1, h2⟩ := condB_some e
    rw [forceRC_eq] at h2
    exact ⟨_, by simp only [elems, h1, if_true], h2⟩
  · obtain ⟨h1, h2⟩ := condB_some e
    obtain ⟨q, h3, _, h4⟩ := row_some hr h2
    split at h4
    · rename_i hc
      obtain ⟨h5, h6⟩ := condB_some h4
      rw [forceRC_eq] at h6
      exact ⟨_, by simp only [elems, h1, if_true, h3, hc, h5], h6⟩
    · rename_i hc
      obtain ⟨h5, h6⟩ := condB_some h4
      rw [forceRC_eq] at h6
      exact ⟨_, by simp only [elems, h1, if_true, h3, hc, h5], h6⟩
  · cases e

/-- What an operation on the heap comes to. -/
def Hs (o : Option (V × H)) (k : KC) (r : V) : Prop := ∃ v h' hf', o = some (v, h') ∧ RH hf' h' ∧ k v hf' = some r

theorem appRowK_some {hf : HF} {h : H} (hr : RH hf h) {sz bytes b o m : Nat} {cap : Option Nat} {xs ys : RC} {n : Nat} {k : KC} {r : V} (e : appRowK hf sz bytes b o m cap xs ys n k = some r) :
    Hs (appRow h sz bytes b o m cap xs ys n) k r := by
  unfold appRowK at e
  obtain ⟨q, h1, hlt, e⟩ := row_some hr e
  unfold appRow
  rw [h1]
  dsimp only
  rw [condB_eq] at e
  split at e
  · rename_i hc
    rw [if_pos hc]
    obtain ⟨c, h2, e⟩ := optK_some e
    rw [forceRC_eq, forceN_eq] at e
    obtain ⟨hf', h3, h4⟩ := put_spec hr hlt c (fun h => k (.sl b o sz (m + n) cap) h)
    rw [h3] at e
    rw [h2]
    exact ⟨_, _, hf', rfl, h4, e⟩
  · rename_i hc
    rw [if_neg hc]
    obtain ⟨h2, e⟩ := condB_some e
    rw [if_pos h2]
    obtain ⟨c, h3, e⟩ := optK_some e
    obtain ⟨h4, e⟩ := condB_some e
    rw [forceRC_eq, forceN_eq] at e
    rw [h3]
    dsimp only
    rw [if_pos h4]
    split at e
    · obtain ⟨h5, e⟩ := condB_some e
      obtain ⟨hf', h6, h7⟩ := new_some hr e
      dsimp only
      rw [if_pos h5]
      exact ⟨_, _, hf', rfl, h6, h7⟩
    · obtain ⟨h5, e⟩ := condB_some e
      obtain ⟨hf1, h6, h7⟩ := kill_spec hr hlt (fun h => h.new c fun i h => k (.sl i 0 sz (m + n) none) h)
      rw [h6] at e
      obtain ⟨hf', h8, h9⟩ := new_some h7 e
      dsimp only
      rw [if_pos h5]
      refine ⟨_, _, hf', rfl, h8, ?_⟩
      have : (h.kill b).next = h.next := by simp [H.kill, H.next]
      rw [← this]; exact h9

theorem appendK_some {hf : HF} {h : H} (hr : RH hf h) {sz bytes : Nat} {x y : V} {k : KC} {r : V} (e : appendK hf sz bytes x y k = some r) : Hs (appendV h sz bytes x y) k r := by
  unfold appendK at e
  obtain ⟨ys, h1, e⟩ := elemsK_some hr e
  obtain ⟨n, h2, e⟩ := optK_some e
  obtain ⟨xs, h3, e⟩ := elemsK_some hr e
  obtain ⟨m, h4, e⟩ := optK_some e
  obtain ⟨h5, e⟩ := condB_some e
  unfold appendV
  rw [h1, h2, h3, h4]
  dsimp only
  rw [if_pos h5]
  split at e
  · obtain ⟨h6, e⟩ := condB_some e
    dsimp only
    rw [if_pos h6]
    exact appRowK_some hr e
  · rename_i hne
    have hgoal : Hs (match x.isNil with
        | some true => if n == 0 then some (x, h) else if fits n bytes && ys.ok then some (.sl h.next 0 sz n none, h.new ys) else none
        | some false => match x.capOf with
          | some c => if decide (c < m + n) && fits (m + n) bytes && decide (xs.size = m * sz) then
              match xs.app ys with
              | some r => if r.ok then some (.sl h.next 0 sz (m + n) none, h.new r) else none
              | none => none
            else none
          | none => none
        | none => none) k r := by
      cases hnil : x.isNil with
      | none => rw [hnil] at e; cases e
      | some t =>
        rw [hnil] at e
        cases t with
        | true =>
          dsimp only at e ⊢
          rw [condB_eq] at e
          split at e
          · rename_i h0
            rw [if_pos h0]
            exact ⟨_, _, hf, rfl, hr, e⟩
          · rename_i h0
            rw [if_neg h0]
            obtain ⟨h6, e1⟩ := condB_some e
            rw [if_pos h6]
            obtain ⟨hf', h7, h8⟩ := new_some hr e1
            rw [forceN_eq] at h8
            exact ⟨_, _, hf', rfl, h7, h8⟩
        | false =>
          dsimp only at e ⊢
          cases hcap : x.capOf with
          | none => rw [hcap] at e; cases e
          | some c =>
            rw [hcap] at e
            dsimp only at e ⊢
            obtain ⟨h6, e1⟩ := condB_some e
            rw [if_pos h6]
            obtain ⟨q, h7, e2⟩ := optK_some e1
            obtain ⟨h8, e3⟩ := condB_some e2
            rw [forceRC_eq] at e3
            obtain ⟨hf', h9, h10⟩ := new_some hr e3
            rw [forceN_eq] at h10
            rw [h7]
            dsimp only
            rw [if_pos h8]
            exact ⟨_, _, hf', rfl, h9, h10⟩
    cases x
    case sl => exact (hne _ _ _ _ _ rfl).elim
    all_goals exact hgoal

theorem copyK_some {hf : HF} {h : H} (hr : RH hf h) {sz : Nat} {x y : V} {k : KC} {r : V} (e : copyK hf sz x y k = some r) : Hs (copyV h sz x y) k r := by
  unfold copyK at e
  obtain ⟨m, h1, e⟩ := optK_some e
  obtain ⟨n, h2, e⟩ := optK_some e
  obtain ⟨ys, h3, e⟩ := elemsK_some hr e
  unfold copyV
  rw [h1, h2, h3]
  dsimp only
  split at e
  · obtain ⟨h4, e⟩ := condB_some e
    dsimp only
    rw [if_pos h4]
    obtain ⟨q, h5, hlt, e⟩ := row_some hr e
    obtain ⟨c, h6, e⟩ := optK_some e
    rw [forceRC_eq] at e
    rename_i b o sz' len cap _
    obtain ⟨hf', h7, h8⟩ := put_spec hr hlt c (fun h => forceN (Nat.min n m) fun q => k (.int .i64 (Int.ofNat q)) h)
    rw [h7, forceN_eq] at e
    rw [h5]
    dsimp only
    rw [h6]
    exact ⟨_, _, hf', rfl, h8, e⟩
  · cases e

theorem storeK_some {hf : HF} {h : H} (hr : RH hf h) {n : Nat} {a x : V} {k : HF → R} {r : V} (e : storeK hf n a x k = some r) : ∃ h' hf', storeV h n a x = some h' ∧ RH hf' h' ∧ k hf' = some r := by
  unfold storeK at e
  split at e
  · rename_i b o
    obtain ⟨q, h1, hlt, e⟩ := row_some hr e
    have one : x.cells = some [x] → condB (Nat.beq n 1) (setRC q.c o x fun c => hf.put b c k) none = some r → ∃ h' hf', storeV h n (.ptr b o) x = some h' ∧ RH hf' h' ∧ k hf' = some r := by
      intro hc e1
      obtain ⟨h2, e2⟩ := condB_some e1
      obtain ⟨c, h3, e3⟩ := setRC_some e2
      obtain ⟨hf', h4, h5⟩ := put_spec hr hlt c k
      rw [h4] at e3
      have hn : n = 1 := Nat.eq_of_beq_eq_true h2
      exact ⟨_, hf', by simp [storeV, h1, hc, RC.setN, h3, hn], h5, e3⟩
    split at e
    · obtain ⟨l, h2, e⟩ := optK_some e
      obtain ⟨h3, e⟩ := condB_some e
      obtain ⟨c, h4, e⟩ := optK_some e
      rw [forceRC_eq] at e
      obtain ⟨hf', h5, h6⟩ := put_spec hr hlt c k
      rw [h5] at e
      have hn : l.length = n := Nat.eq_of_beq_eq_true h3
      exact ⟨_, hf', by simp [storeV, h1, h2, hn, h4], h6, e⟩
    · rename_i hna
      cases hcell : x.isCell with
      | true =>
        refine one ?_ e
        cases x <;> first | (simp [V.isCell] at hcell; done) | simp [V.cells, V.isCell]
      | false =>
        exfalso
        obtain ⟨_, e⟩ := condB_some e
        obtain ⟨c, h3, _⟩ := setRC_some e
        unfold RC.set at h3
        split at h3
        · simp [V.isCell] at hcell
        · cases h3
        · simp [hcell] at h3
  · cases e

end Go.AM.F
