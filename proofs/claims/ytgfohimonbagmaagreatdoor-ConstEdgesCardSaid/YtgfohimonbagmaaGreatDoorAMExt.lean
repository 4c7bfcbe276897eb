/- Functions without a body: their contracts. -/
import Derived.Test.YtgfohimonbagmaaGreatDoorAMClosed
import Derived.Lib.Bytealg
namespace Go.AM

/-- What an entry of the table answers to data. -/
def EntryOK (e : Array Value → Sem Value) (Φ : List V → Option V) : Prop :=
  ∀ (P : Program) (m : M) (w : World) (ds : List V) (cargs : List Value) (r : V), RelL m ds cargs → Φ ds = some r → ∃ v, (e cargs.toArray).run P w = .ok v w ∧ Rel m r v

theorem pure_extern {P : Program} {f : FuncId} {g : Func} {e : Array Value → Sem Value} {Φ : List V → Option V} (hf : P.funcs[f]? = some g) (hname : (g.name == "runtime.NumGoroutine") = false) (hb : g.body.isNone = true)
    (hn : Extern.findNext g = none) (he : Extern.find g = some e) (h : EntryOK e Φ) : PureC P f Φ := by
  intro G w ds cargs r hG hrel hd
  obtain ⟨v, hrun, hv⟩ := h P (M.only G) w ds cargs r hrel hd
  unfold Invokes
  rw [run_callFunc_extern hf hname hb hn he, hrun]
  exact ⟨G, fun _ _ h => h, fun _ h => .inl h, hG, hv, Go.RowKit.Below.refl _ _⟩

def idxL (c : Nat) : List Nat → Nat → Int
  | [], _ => -1
  | x :: r, i => if x == c then Int.ofNat i else idxL c r (i + 1)
def eIdx : List V → Option V
  | [.str l, .int .u8 c] => if decide (0 ≤ c) && decide (c < 256) then some (.int .i64 (idxL c.toNat l 0)) else none
  | _ => none
def cmpL : List Nat → List Nat → Int
  | [], [] => 0
  | [], _ :: _ => -1
  | _ :: _, [] => 1
  | a :: r, b :: s => if decide (a < b) then -1 else if decide (b < a) then 1 else cmpL r s
def eCmp : List V → Option V
  | [.str a, .str b] => some (.int .i64 (cmpL a b))
  | _ => none
def cntL (c : Nat) : List Nat → Nat
  | [] => 0
  | x :: r => if x == c then cntL c r + 1 else cntL c r
def eCnt : List V → Option V
  | [.str l, .int .u8 c] => if decide (0 ≤ c) && decide (c < 256) then some (.int .i64 (cntL c.toNat l)) else none
  | _ => none
def eBits : List V → Option V
  | [.flt .f64 b] => some (.int .u64 b)
  | _ => none
def eFrom : List V → Option V
  | [.int .u64 n] => some (.flt .f64 n.toNat)
  | _ => none

theorem byte_eq {c : Int} (h0 : 0 ≤ c) (h1 : c < 256) (b : UInt8) : (b == c.toNat.toUInt8) = (b.toNat == c.toNat) := by
  rw [Bool.eq_iff_iff]
  simp only [beq_iff_eq]
  rw [← UInt8.toNat_inj]
  have : c.toNat.toUInt8.toNat = c.toNat := by
    rw [Nat.toUInt8_eq, UInt8.toNat_ofNat']; omega
  rw [this]

theorem index_ge (c : UInt8) : ∀ l : List UInt8, 0 ≤ Lib.indexByte l c ∨ Lib.indexByte l c = -1
  | [] => .inr rfl
  | y :: l => by
    simp only [Lib.indexByte]
    rcases index_ge c l with h | h <;> (repeat' split) <;> first | (exact .inr rfl) | (left; omega) | (left; exact Int.le_refl _) | simp_all

theorem idxL_eq {c : Int} (h0 : 0 ≤ c) (h1 : c < 256) : ∀ (l : List UInt8) (i : Nat), idxL c.toNat (l.map (·.toNat)) i = if Lib.indexByte l c.toNat.toUInt8 = -1 then -1 else Lib.indexByte l c.toNat.toUInt8 + i
  | [], i => rfl
  | b :: l, i => by
    simp only [List.map_cons, idxL, Lib.indexByte]
    rw [← byte_eq h0 h1 b]
    by_cases hb : (b == c.toNat.toUInt8) = true
    · simp [hb]
    · simp only [if_neg hb]
      rw [idxL_eq h0 h1 l (i + 1)]
      rcases index_ge c.toNat.toUInt8 l with h | h
      · have h2 : ¬ (Lib.indexByte l c.toNat.toUInt8 = -1) := by omega
        have h3 : ¬ ((Lib.indexByte l c.toNat.toUInt8 == -1) = true) := by simpa using h2
        have h4 : ¬ (Lib.indexByte l c.toNat.toUInt8 + 1 = -1) := by omega
        rw [if_neg h2, if_neg h3, if_neg h4]
        push_cast; omega
      · simp [h]

theorem entry_idx : EntryOK Extern.BytealgIndexByte.indexByte eIdx := by
  intro P m w ds cargs r hrel h
  unfold eIdx at h
  split at h
  · rename_i l c
    split at h
    · rename_i hc
      simp only [Bool.and_eq_true, decide_eq_true_eq] at hc
      obtain rfl := Option.some.inj h
      cases hrel with
      | cons h1 t => cases t with
        | cons h2 t => cases t with
          | nil =>
            cases h1 with
            | str s _ e =>
              cases h2
              subst e
              refine ⟨_, Lib.run_indexByteString s c w, ?_⟩
              rw [idxL_eq hc.1 hc.2]
              split
              · rename_i hx; rw [hx]; exact .int _ _
              · rw [Int.natCast_zero, Int.add_zero]; exact .int _ _
    · cases h
  · cases h

theorem cmpL_eq : ∀ (a b : List UInt8), cmpL (a.map (·.toNat)) (b.map (·.toNat)) = Lib.compareBytes a b
  | [], [] => rfl
  | [], _ :: _ => rfl
  | _ :: _, [] => rfl
  | x :: a, y :: b => by
    simp only [List.map_cons, cmpL, Lib.compareBytes, decide_eq_true_eq]
    rw [cmpL_eq a b]
    rfl

theorem entry_cmp : EntryOK Extern.BytealgCompare.compare eCmp := by
  intro P m w ds cargs r hrel h
  unfold eCmp at h
  split at h
  · obtain rfl := Option.some.inj h
    cases hrel with
    | cons h1 t => cases t with
      | cons h2 t => cases t with
        | nil =>
          cases h1 with
          | str s _ e => cases h2 with
            | str s' _ e' =>
              subst e; subst e'
              refine ⟨_, Lib.run_compareString s s' w, ?_⟩
              rw [cmpL_eq]; exact .int _ _
  · cases h

theorem cntL_eq {c : Int} (h0 : 0 ≤ c) (h1 : c < 256) : ∀ (l : List UInt8), cntL c.toNat (l.map (·.toNat)) = Lib.countByte l c.toNat.toUInt8
  | [] => rfl
  | b :: l => by
    simp only [List.map_cons, cntL, Lib.countByte, List.count_cons]
    rw [← byte_eq h0 h1 b, cntL_eq h0 h1 l]
    cases (b == c.toNat.toUInt8) <;> simp [Lib.countByte]

theorem entry_cnt : EntryOK Extern.BytealgCount.count eCnt := by
  intro P m w ds cargs r hrel h
  unfold eCnt at h
  split at h
  · rename_i l c
    split at h
    · rename_i hc
      simp only [Bool.and_eq_true, decide_eq_true_eq] at hc
      obtain rfl := Option.some.inj h
      cases hrel with
      | cons h1 t => cases t with
        | cons h2 t => cases t with
          | nil =>
            cases h1 with
            | str s _ e =>
              cases h2
              subst e
              refine ⟨_, Lib.run_countString s c w, ?_⟩
              rw [cntL_eq hc.1 hc.2]; exact .int _ _
    · cases h
  · cases h

theorem entry_bits : EntryOK Extern.MathFloatBits.float64bits eBits := by
  intro P m w ds cargs r hrel h
  unfold eBits at h
  split at h
  · obtain rfl := Option.some.inj h
    cases hrel with
    | cons h1 t => cases t with
      | nil => cases h1; exact ⟨_, rfl, .int _ _⟩
  · cases h

theorem entry_from : EntryOK Extern.MathFloatBits.float64frombits eFrom := by
  intro P m w ds cargs r hrel h
  unfold eFrom at h
  split at h
  · obtain rfl := Option.some.inj h
    cases hrel with
    | cons h1 t => cases t with
      | nil => cases h1; exact ⟨_, rfl, .flt _ _⟩
  · cases h

end Go.AM
