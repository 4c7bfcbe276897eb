/- Slices and strings cut, elements, lengths, conversions. -/
import Derived.Test.YtgfohimonbagmaaGreatDoorAMOps2
namespace Go.AM
open Go.RowKit (Below)

theorem sliceV_sound {P : Program} {m : M} {B h w} {e : Env} {ρ : Operand → Value} (hρ : ORel P m e ρ) (_hs : Sim m B h w) {t el : TypeId} {j : TypeInfo} {x v : V} {vx : Value} {lo hi mx : Option Operand} {lo' hi' mx' : Option O}
    (ht : P.underlying t = some (.slice el)) (hj : P.info? el = some j) (h1 : cOo P lo = some lo') (h2 : cOo P hi = some hi') (h3 : cOo P mx = some mx')
    (hx : Rel m x vx) {ik : Option IntKind} (h : sliceV ik j.size e x lo' hi' mx' = some v) :
    ∃ v', (Instr.sliceAt t vx (lo.map ρ) (hi.map ρ) (mx.map ρ)).run P w = .ok v' w ∧ Rel m v v' := by
  have hrun : ∀ (a : Option Addr) (n c l hh mm : Nat), (Instr.sliceBounds true n c (lo.map ρ) (hi.map ρ) (mx.map ρ)).run P w = .ok (l, hh, mm) w →
      (Instr.sliceAt t (.slice a n c) (lo.map ρ) (hi.map ρ) (mx.map ρ)).run P w = .ok (.slice (if mm = l then a else a.map (·.add (l * j.size))) (hh - l) (mm - l)) w := by
    intro a n c l hh mm hb
    simp [Instr.sliceAt, Instr.slice, run_underlying ht, hb, run_size hj]
  cases hx with
  | intsn k cap hcap =>
    simp only [sliceV, List.length_nil] at h
    split at h
    · rename_i l hh mm hb
      have hc0 : capOr cap 0 = 0 := by cases cap with
        | none => rfl
        | some c => exact (hcap c rfl).symm
      rw [hc0] at hb
      obtain ⟨r1, r2, r3, r4, r5⟩ := bounds_sound (P := P) (w := w) hρ true h1 h2 h3 (c := 0) (Nat.le_refl _) (Nat.le_refl _) hb
      split at h
      · obtain rfl := Option.some.inj h
        obtain rfl : mm = 0 := by omega
        obtain rfl : l = 0 := by omega
        obtain rfl : hh = 0 := by omega
        refine ⟨_, hrun none 0 0 0 0 _ r1, ?_⟩
        have : (if mx'.isSome = true then (0 : Nat) else 0) = 0 := by split <;> rfl
        rw [this]
        simp only [if_true, Nat.sub_self]
        refine .intsn _ _ fun c' hc' => ?_
        cases mx' <;> cases cap <;> simp [newCap] at hc' <;> omega
      · cases h
    · cases h
  | lstn sz cap hcap =>
    simp only [sliceV] at h
    split at h
    · rename_i l hh mm hb
      have hc0 : capOr cap 0 = 0 := by cases cap with
        | none => rfl
        | some c => exact (hcap c rfl).symm
      rw [hc0] at hb
      obtain ⟨r1, r2, r3, r4, r5⟩ := bounds_sound (P := P) (w := w) hρ true h1 h2 h3 (c := 0) (Nat.le_refl _) (Nat.le_refl _) hb
      split at h
      · obtain rfl := Option.some.inj h
        obtain rfl : mm = 0 := by omega
        obtain rfl : l = 0 := by omega
        obtain rfl : hh = 0 := by omega
        refine ⟨_, hrun none 0 0 0 0 _ r1, ?_⟩
        have : (if mx'.isSome = true then (0 : Nat) else 0) = 0 := by split <;> rfl
        rw [this]
        simp only [if_true, Nat.sub_self, List.take_nil, List.drop_nil, Nat.zero_mul]
        refine .lstn _ _ fun c' hc' => ?_
        cases mx' <;> cases cap <;> simp [newCap] at hc' <;> omega
      · cases h
    · cases h
  | ints k zs cap Bk off cs c hG hc hl hcap =>
    simp only [sliceV] at h
    split at h
    · rename_i l hh mm hb
      have hca : capOr cap zs.length ≤ c := by
        cases cap with
        | none => exact hl
        | some c' => exact Nat.le_of_eq (hcap c' rfl).symm
      have hlen : zs.length ≤ capOr cap zs.length := by
        cases cap with
        | none => exact Nat.le_refl _
        | some c' => have := hcap c' rfl; simp only [capOr]; omega
      obtain ⟨r1, r2, r3, r4, r5⟩ := bounds_sound (P := P) (w := w) hρ true h1 h2 h3 hca hlen hb
      split at h
      · rename_i hcond
        simp only [Bool.and_eq_true, beq_iff_eq, decide_eq_true_eq] at hcond
        obtain ⟨hsz, hhl⟩ := hcond
        obtain rfl := Option.some.inj h
        refine ⟨_, hrun _ _ _ _ _ _ r1, ?_⟩
        have hm' : hh ≤ (if mx'.isSome = true then mm else c) := by split <;> omega
        have hlen2 : ((zs.take hh).drop l).length = hh - l := by simp; omega
        have hcap2 : ∀ c', newCap mx' cap (mm - l) = some c' → (if mx'.isSome = true then mm else c) - l = c' := by
          intro c' e
          cases mx' with
          | some q => simp [newCap] at e ⊢; exact e
          | none =>
            cases cap with
            | none => simp [newCap] at e
            | some c2 =>
              have := hcap c2 rfl
              have := r5 rfl
              simp [newCap, capOr] at e this ⊢; omega
        rw [← hlen2]
        by_cases he : (if mx'.isSome = true then mm else c) = l
        · rw [if_pos he]
          refine .ints k _ _ Bk off cs _ hG (fun q hq => ?_) (by rw [hlen2]; omega) hcap2
          rw [hlen2] at hq; omega
        · rw [if_neg he]
          have ha : (some (⟨Bk, off, none⟩ : Addr)).map (·.add (l * j.size)) = some ⟨Bk, off + l, none⟩ := by
            rw [Option.map_some, Addr.add_lit, hsz, Nat.mul_one]
          rw [ha]
          refine .ints k _ _ Bk (off + l) cs _ hG (fun q hq => ?_) (by rw [hlen2]; omega) hcap2
          rw [hlen2] at hq
          rw [show off + l + q = off + (l + q) by omega, hc (l + q) (by omega)]
          congr 2
          simp
      · cases h
    · cases h
  | intse k cap a c hcap =>
    simp only [sliceV, List.length_nil] at h
    split at h
    · rename_i l hh mm hb
      have hc0 : capOr cap 0 ≤ c := by cases cap with
        | none => exact Nat.zero_le _
        | some c' => exact Nat.le_of_eq (hcap c' rfl).symm
      obtain ⟨r1, r2, r3, r4, r5⟩ := bounds_sound (P := P) (w := w) hρ true h1 h2 h3 hc0 (Nat.zero_le _) hb
      split at h
      · rename_i hcond
        simp only [Bool.and_eq_true, beq_iff_eq, decide_eq_true_eq] at hcond
        obtain rfl := Option.some.inj h
        obtain rfl : hh = 0 := by omega
        obtain rfl : l = 0 := by omega
        have hcap2 : ∀ c', newCap mx' cap (mm - 0) = some c' → (if mx'.isSome = true then mm else c) - 0 = c' := by
          intro c' e
          cases mx' with
          | some q => simp [newCap] at e ⊢; exact e
          | none =>
            cases cap with
            | none => simp [newCap] at e
            | some c2 =>
              have := hcap c2 rfl
              have := r5 rfl
              simp [newCap, capOr] at e this ⊢; omega
        refine ⟨_, hrun _ _ _ _ _ _ r1, ?_⟩
        have hn0 : (([] : List Int).take 0).drop 0 = [] := rfl
        rw [hn0]
        have key : ∀ n : Nat, ∃ a', (if n = 0 then some a else Option.map (fun x : Addr => x.add (0 * j.size)) (some a)) = some a' := fun n => by
          by_cases h : n = 0
          · rw [if_pos h]; exact ⟨_, rfl⟩
          · rw [if_neg h]; exact ⟨_, rfl⟩
        obtain ⟨a', ha'⟩ := key (if mx'.isSome = true then mm else c)
        rw [ha']
        exact .intse _ _ _ _ hcap2
      · cases h
    · cases h
  | lste sz cap a c hcap =>
    simp only [sliceV] at h
    split at h
    · rename_i l hh mm hb
      have hc0 : capOr cap 0 ≤ c := by cases cap with
        | none => exact Nat.zero_le _
        | some c' => exact Nat.le_of_eq (hcap c' rfl).symm
      obtain ⟨r1, r2, r3, r4, r5⟩ := bounds_sound (P := P) (w := w) hρ true h1 h2 h3 hc0 (Nat.zero_le _) hb
      split at h
      · rename_i hcond
        simp only [Bool.and_eq_true, beq_iff_eq, decide_eq_true_eq] at hcond
        obtain rfl := Option.some.inj h
        obtain rfl : hh = 0 := by omega
        obtain rfl : l = 0 := by omega
        have hcap2 : ∀ c', newCap mx' cap (mm - 0) = some c' → (if mx'.isSome = true then mm else c) - 0 = c' := by
          intro c' e
          cases mx' with
          | some q => simp [newCap] at e ⊢; exact e
          | none =>
            cases cap with
            | none => simp [newCap] at e
            | some c2 =>
              have := hcap c2 rfl
              have := r5 rfl
              simp [newCap, capOr] at e this ⊢; omega
        refine ⟨_, hrun _ _ _ _ _ _ r1, ?_⟩
        have key : ∀ n : Nat, ∃ a', (if n = 0 then some a else Option.map (fun x : Addr => x.add (0 * j.size)) (some a)) = some a' := fun n => by
          by_cases h : n = 0
          · rw [if_pos h]; exact ⟨_, rfl⟩
          · rw [if_neg h]; exact ⟨_, rfl⟩
        obtain ⟨a', ha'⟩ := key (if mx'.isSome = true then mm else c)
        rw [ha']
        simp only [Nat.zero_mul, List.take_nil, List.drop_nil]
        exact .lste _ _ _ _ hcap2
      · cases h
    · cases h
  | lst sz n xs cap Bk off cs c ws hG hn hc hr hl hcap =>
    simp only [sliceV] at h
    split at h
    · rename_i l hh mm hb
      have hca : capOr cap n ≤ c := by
        cases cap with
        | none => exact hl
        | some c' => exact Nat.le_of_eq (hcap c' rfl).symm
      have hlen : n ≤ capOr cap n := by
        cases cap with
        | none => exact Nat.le_refl _
        | some c' => have := hcap c' rfl; simp only [capOr]; omega
      obtain ⟨r1, r2, r3, r4, r5⟩ := bounds_sound (P := P) (w := w) hρ true h1 h2 h3 hca hlen hb
      split at h
      · rename_i hcond
        simp only [Bool.and_eq_true, beq_iff_eq, decide_eq_true_eq] at hcond
        obtain ⟨hsz, hhl⟩ := hcond
        obtain rfl := Option.some.inj h
        refine ⟨_, hrun _ _ _ _ _ _ r1, ?_⟩
        have hm' : hh ≤ (if mx'.isSome = true then mm else c) := by split <;> omega
        have hmul : hh * j.size ≤ n * j.size := Nat.mul_le_mul_right _ hhl
        have hmul2 : l * j.size ≤ hh * j.size := Nat.mul_le_mul_right _ r2
        subst hsz
        have hlen2 : ((xs.take (hh * j.size)).drop (l * j.size)).length = (hh - l) * j.size := by
          rw [List.length_drop, List.length_take, hn, Nat.min_eq_left hmul, Nat.sub_mul]
        have hcap2 : ∀ c', newCap mx' cap (mm - l) = some c' → (if mx'.isSome = true then mm else c) - l = c' := by
          intro c' e
          cases mx' with
          | some q => simp [newCap] at e ⊢; exact e
          | none =>
            cases cap with
            | none => simp [newCap] at e
            | some c2 =>
              have := hcap c2 rfl
              have := r5 rfl
              simp [newCap, capOr] at e this ⊢; omega
        by_cases he : (if mx'.isSome = true then mm else c) = l
        · rw [if_pos he]
          have h0 : hh - l = 0 := by omega
          refine .lst _ _ _ _ Bk off cs _ ws hG hlen2 (fun q hq => ?_) (fun q hq => ?_) (by omega) hcap2
          · rw [hlen2, h0] at hq; omega
          · rw [hlen2, h0] at hq; omega
        · rw [if_neg he]
          have ha : (some (⟨Bk, off, none⟩ : Addr)).map (·.add (l * j.size)) = some ⟨Bk, off + l * j.size, none⟩ := by
            rw [Option.map_some, Addr.add_lit]
          rw [ha]
          have hsub : (hh - l) * j.size = hh * j.size - l * j.size := Nat.sub_mul ..
          refine .lst _ _ _ _ Bk (off + l * j.size) cs _ (fun q => ws (l * j.size + q)) hG hlen2 (fun q hq => ?_) (fun q hq => ?_) (by omega) hcap2
          · rw [hlen2] at hq
            rw [Nat.add_assoc]; exact hc _ (by omega)
          · have := hr (l * j.size + q) (by rw [hlen2] at hq; omega)
            simpa using this
      · cases h
    · cases h
  | sl b o sz len cap p c hb hl hc hcap hrow =>
    simp only [sliceV] at h
    split at h
    · rename_i l hh mm hbd
      have hca : capOr cap len ≤ c := by
        cases cap with
        | none => exact hl
        | some c' => exact Nat.le_of_eq (hcap c' rfl).symm
      have hlen : len ≤ capOr cap len := by
        cases cap with
        | none => exact Nat.le_refl _
        | some c' => have := hcap c' rfl; simp only [capOr]; omega
      obtain ⟨r1, r2, r3, r4, r5⟩ := bounds_sound (P := P) (w := w) hρ true h1 h2 h3 hca hlen hbd
      split at h
      · rename_i hsz
        simp only [beq_iff_eq] at hsz
        have hrun' := hrun (some ⟨p.blk, p.base + o, none⟩) _ _ _ _ _ r1
        subst hsz
        split at h
        · -- unknown capacity, no max
          simp only [Option.isSome_none, Bool.false_eq_true, if_false] at hrun'
          split at h
          · rename_i hlt
            have hlt' : l < len := by simpa using hlt
            obtain rfl := Option.some.inj h
            rw [if_neg (by omega)] at hrun'
            rw [Option.map_some, Addr.add_lit] at hrun'
            refine ⟨_, hrun', ?_⟩
            rw [Nat.add_assoc]
            refine .sl b (o + l * j.size) j.size (hh - l) none p _ hb (by omega) ?_ (fun c' e => by cases e) (fun _ => by have := hrow rfl; have : (c - l) * j.size = c * j.size - l * j.size := Nat.sub_mul ..; have : l * j.size ≤ c * j.size := Nat.mul_le_mul_right _ (by omega); omega)
            have : (c - l) * j.size = c * j.size - l * j.size := Nat.sub_mul ..
            have : l * j.size ≤ c * j.size := Nat.mul_le_mul_right _ (by omega)
            omega
          · split at h
            · rename_i h0
              obtain rfl : l = 0 := by simpa using h0
              obtain rfl := Option.some.inj h
              refine ⟨_, hrun', ?_⟩
              have : (if c = 0 then some (⟨p.blk, p.base + o, none⟩ : Addr) else (some (⟨p.blk, p.base + o, none⟩ : Addr)).map (·.add (0 * j.size))) = some ⟨p.blk, p.base + o, none⟩ := by
                split
                · rfl
                · simp [Addr.add]
              rw [this]
              refine .sl b o j.size (hh - 0) none p _ hb (by omega) (by simpa using hc) (fun c' e => by cases e) (fun _ => by simpa using hrow rfl)
            · rename_i hge hne
              have hge' : ¬ l < len := by simpa using hge
              have hcl : capOr none len = len := rfl
              have hh0 : hh - l = 0 := by omega
              obtain rfl := Option.some.inj h
              refine ⟨_, hrun', ?_⟩
              rw [hh0]
              have key : ∀ (a : Addr) (c : Nat), Rel m (emptyV ik j.size) (.slice (some a) 0 c) := fun a c => by
                cases ik with
                | none => exact .lste _ _ a c (fun _ e => by cases e)
                | some k => exact .intse _ _ a c (fun _ e => by cases e)
              split
              · exact key _ _
              · exact key _ _
        · rename_i hnn
          obtain rfl := Option.some.inj h
          have hmm : (if mx'.isSome = true then mm else c) = mm := by
            cases mx' with
            | some q => simp
            | none => cases cap with
              | none => exact absurd rfl (hnn rfl)
              | some c' =>
                have := hcap c' rfl
                have := r5 rfl
                simp [capOr] at this ⊢; omega
          rw [hmm] at hrun'
          refine ⟨_, hrun', ?_⟩
          have hle : l * j.size ≤ mm * j.size := Nat.mul_le_mul_right _ (by omega)
          have hle2 : mm * j.size ≤ c * j.size := Nat.mul_le_mul_right _ (by omega)
          have hsub : (mm - l) * j.size = mm * j.size - l * j.size := Nat.sub_mul ..
          by_cases he : mm = l
          · rw [if_pos he, if_pos he]
            refine .sl b o j.size (hh - l) _ p _ hb (by omega) ?_ (fun c' e => by simpa using e) (fun e => by cases e)
            omega
          · rw [if_neg he, if_neg he, Option.map_some, Addr.add_lit, Nat.add_assoc]
            refine .sl b (o + l * j.size) j.size (hh - l) _ p _ hb (by omega) ?_ (fun c' e => by simpa using e) (fun e => by cases e)
            omega
      · cases h
    · cases h
  | _ => simp [sliceV] at h

theorem sliceS_sound {P : Program} {m : M} {w : World} {e : Env} {ρ : Operand → Value} (hρ : ORel P m e ρ) {t : TypeId} {s : ByteArray} {lo hi : Option Operand} {lo' hi' : Option O} {a b c : Nat}
    (ht : P.underlying t = some .string) (h1 : cOo P lo = some lo') (h2 : cOo P hi = some hi') (h : bounds e s.size s.size lo' hi' none = some (a, b, c)) :
    (Instr.sliceAt t (.string s) (lo.map ρ) (hi.map ρ) none).run P w = .ok (.string (s.extract a b)) w := by
  obtain ⟨r1, _⟩ := bounds_sound (P := P) (w := w) hρ (mx := none) (mx' := none) false h1 h2 rfl (Nat.le_refl _) (Nat.le_refl _) h
  simp at r1
  simp [Instr.sliceAt, Instr.slice, run_underlying ht, r1]

theorem elemAddr_sound {P : Program} {m : M} {w : World} {t el : TypeId} {j : TypeInfo} {x i v : V} {vx vi : Value} (ht : P.underlying t = some (.slice el)) (hj : P.info? el = some j)
    (hx : Rel m x vx) (hi : Rel m i vi) (h : elemAddr j.size x i = some v) : ∃ v', (Instr.indexAt t vx vi).run P w = .ok v' w ∧ Rel m v v' := by
  unfold elemAddr at h
  split at h
  · rename_i k q
    cases hi
    have hrun : ∀ (a : Addr) (n c : Nat), 0 ≤ q → q < n → (Instr.indexAt t (.slice (some a) n c) (.int k q)).run P w = .ok (.pointer (some (a.add (q.toNat * j.size)))) w := by
      intro a n c h0 h1
      simp [Instr.indexAt, asIntOf, run_underlying ht, h0, h1, run_size hj]
    split at h
    · split at h
      · rename_i hc
        simp only [Bool.and_eq_true, beq_iff_eq, decide_eq_true_eq] at hc
        obtain ⟨⟨h1, h0⟩, h2⟩ := hc
        obtain rfl := Option.some.inj h
        cases hx with
        | intse => simp at h2; omega
        | ints k' zs cap Bk off cs c hG hcc hl hcap =>
          refine ⟨_, hrun _ _ _ h0 h2, ?_⟩
          rw [Addr.add_lit, h1, Nat.mul_one]
          exact .pint _ _ _ Bk off cs hG hcc
      · cases h
    · split at h
      · rename_i hc
        simp only [Bool.and_eq_true, beq_iff_eq, decide_eq_true_eq] at hc
        obtain ⟨⟨h1, h0⟩, h2⟩ := hc
        obtain rfl := Option.some.inj h
        cases hx with
        | lste => simp at h2; omega
        | lst sz n xs cap Bk off cs c ws hG hn hcc hr hl hcap =>
          refine ⟨_, hrun _ _ _ h0 h2, ?_⟩
          rw [Addr.add_lit]
          exact .plst _ _ Bk off cs ws hG hcc hr
      · cases h
    · split at h
      · rename_i hc
        simp only [Bool.and_eq_true, beq_iff_eq, decide_eq_true_eq] at hc
        obtain ⟨⟨h1, h0⟩, h2⟩ := hc
        obtain rfl := Option.some.inj h
        cases hx with
        | sl b o sz len cap p c hb hl hcc hcap hrow =>
          refine ⟨_, hrun _ _ _ h0 h2, ?_⟩
          rw [Addr.add_lit, Nat.add_assoc]
          exact .ptr _ _ p hb
      · cases h
    · cases h
  · cases h

theorem moveP_sound {m : M} {off : Nat} {x v : V} {vx : Value} (hx : Rel m x vx) (h : moveP off x = some v) : ∃ a : Addr, vx = .pointer (some a) ∧ Rel m v (.pointer (some (a.add off))) := by
  cases hx <;> simp [moveP] at h <;> subst h
  · exact ⟨_, rfl, by rw [Addr.add_lit, Nat.add_assoc]; exact .ptr _ _ _ ‹_›⟩
  · exact ⟨_, rfl, by rw [Addr.add_lit, Nat.add_assoc]; exact .pint _ _ _ _ _ _ ‹_› ‹_›⟩
  · exact ⟨_, rfl, by rw [Addr.add_lit, Nat.add_assoc]; exact .plst _ _ _ _ _ _ ‹_› ‹_› ‹_›⟩

theorem cellsAt_sound {P : Program} {m : M} {w : World} {el : TypeId} {j : TypeInfo} {xs : List V} {a : Array Value} {off : Nat} {v : V} (hj : P.info? el = some j) (hu : (P.underlying el).isSome = true)
    (hx : RelL m xs a.toList) (h : cellsAt (isAggT P el) xs off j.size = some v) : ∃ v', (part el a off).run P w = .ok v' w ∧ Rel m v v' := by
  unfold cellsAt at h
  by_cases hagg : isAggT P el = true
  · rw [if_pos hagg] at h
    split at h
    · obtain rfl := Option.some.inj h
      refine ⟨.agg (a.extract off (off + j.size)), by simp [part, run_agg hu, hagg, run_size hj], rel_agg ?_⟩
      have : (a.extract off (off + j.size)).toList = (a.toList.drop off).take j.size := by simp [List.take_drop]
      rw [this]
      exact (hx.drop off).take j.size
    · cases h
  · rw [if_neg hagg] at h
    have hl : off < xs.length := (List.getElem?_eq_some_iff.1 h).1
    have hl' : off < a.size := by have := hx.length; simp at this; omega
    refine ⟨a[off], by simp [part, run_agg hu, hagg, hl'], ?_⟩
    rw [List.getElem?_eq_getElem hl] at h
    obtain rfl := Option.some.inj h
    have := hx.get off hl (by simpa using hl')
    rwa [Array.getElem_toList] at this

theorem lenV_shape {m : M} {x : V} {vx : Value} {n : Nat} (hx : Rel m x vx) (h : lenV x = some n) : (∃ s : ByteArray, vx = .string s ∧ s.size = n) ∨ ∃ a c, vx = .slice a n c ∧ n ≤ c := by
  cases hx <;> simp [lenV] at h
  case str s l hl => exact .inl ⟨s, rfl, by rw [← h, ← hl]; simp⟩
  all_goals (subst h; refine .inr ⟨_, _, rfl, ?_⟩; first | omega | simp | assumption)

theorem foldMin_sound {P : Program} {m : M} {w : World} (mn : Bool) : ∀ {l : List V} {r : List Value} {x v : V} {vx : Value}, Rel m x vx → RelL m l r → foldMin mn x l = some v →
    ∃ v', (r.foldlM (if mn then Builtin.min2 else Builtin.max2) vx).run P w = .ok v' w ∧ Rel m v v'
  | [], r, x, v, vx, hx, hl, h => by
    cases hl
    simp [foldMin] at h; subst h
    exact ⟨vx, rfl, hx⟩
  | y :: l, r, x, v, vx, hx, hl, h => by
    cases hl with
    | cons hy hl =>
      cases x <;> cases y <;> simp only [foldMin] at h <;> try cases h
      rename_i k a k' b
      split at h
      · rename_i hk
        simp only [beq_iff_eq] at hk
        subst hk
        cases hx; cases hy
        cases mn with
        | true =>
          simp only [if_true] at h ⊢
          have hr : Rel m (.int k (if decide (b < a) = true then b else a)) (.int k (if b < a then b else a)) := by
            rw [show (if decide (b < a) = true then b else a) = (if b < a then b else a) by simp]; exact .int _ _
          obtain ⟨v', hrun, hrel⟩ := foldMin_sound (P := P) (w := w) true hr hl h
          refine ⟨v', ?_, hrel⟩
          simp only [List.foldlM_cons, if_true] at hrun ⊢
          simpa [Builtin.min2] using hrun
        | false =>
          simp only [Bool.false_eq_true, if_false] at h ⊢
          have hr : Rel m (.int k (if decide (b > a) = true then b else a)) (.int k (if b > a then b else a)) := by
            rw [show (if decide (b > a) = true then b else a) = (if b > a then b else a) by simp]; exact .int _ _
          obtain ⟨v', hrun, hrel⟩ := foldMin_sound (P := P) (w := w) false hr hl h
          refine ⟨v', ?_, hrel⟩
          simp only [List.foldlM_cons, Bool.false_eq_true, if_false] at hrun ⊢
          simpa [Builtin.max2] using hrun
      · cases h

end Go.AM
