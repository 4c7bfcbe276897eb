/- The fast evaluator: every operation. -/
import Derived.Test.YtgfohimonbagmaaGreatDoorAMFast3
namespace Go.AM.F

theorem condK_some {v : V} {x y : R} {r : V} (h : condK v x y = some r) : ∃ b, v = .bool b ∧ (if b then x else y) = some r := by
  cases v
  case bool b => cases b <;> exact ⟨_, rfl, h⟩
  all_goals cases h

theorem entK_some {hf : HF} {h : H} (hr : RH hf h) {m : V} {k : List (V × V) → R} {r : V} (x : entK hf m k = some r) : ∃ l, mentries h m = some l ∧ k l = some r := by
  unfold entK at x
  split at x
  · obtain ⟨l, h1, h2⟩ := nthK_some x
    rw [hr.maps] at h1
    exact ⟨l, h1, h2⟩
  · exact ⟨[], rfl, x⟩
  · cases x

theorem mgetK_some {hf : HF} {h : H} (hr : RH hf h) {kt : KT} {zero : V} {ok : Bool} {m a : V} {k : V → R} {r : V} (x : mgetK hf kt zero ok m a k = some r) : ∃ v, mgetV h kt zero ok m a = some v ∧ k v = some r := by
  unfold mgetK at x
  obtain ⟨l, h1, x2⟩ := entK_some hr x
  obtain ⟨h2, x3⟩ := condB_some x2
  unfold mgetV
  simp only [h1, h2, if_true]
  split at x3
  · rename_i p hf
    rw [forceV_eq] at x3
    exact ⟨_, by simp only [hf], x3⟩
  · rename_i hf
    exact ⟨_, by simp only [hf], x3⟩
  · cases x3

theorem msetK_some {hf : HF} {h : H} (hr : RH hf h) {kt : KT} {m a y : V} {k : HF → R} {r : V} (x : msetK hf kt m a y k = some r) : ∃ h' hf', msetV h kt m a y = some h' ∧ RH hf' h' ∧ k hf' = some r := by
  unfold msetK at x
  split at x
  · rename_i b
    obtain ⟨t0, m0, clk0, maps0⟩ := hf
    have x2 : (nthK maps0 b fun l => condB (keyOk kt a) (optK (mputL kt l a y) fun l => forceL l fun l => setK maps0 l b fun maps => k ⟨t0, m0, clk0, maps⟩) none : R) = some r := x
    have hm : maps0 = h.maps := hr.maps
    subst hm
    obtain ⟨l, h1, x3⟩ := nthK_some x2
    obtain ⟨h2, x4⟩ := condB_some x3
    obtain ⟨l', h3, x5⟩ := optK_some x4
    rw [forceL_eq] at x5
    obtain ⟨_, x6⟩ := setK_some x5
    refine ⟨h.setMap b l', ⟨t0, m0, clk0, h.maps.set b l'⟩, ?_, ⟨hr.n, hr.clk, hr.cap, hr.get, rfl⟩, x6⟩
    simp only [msetV, h1, h2, if_true, h3]
  · cases x

/-- An operation that does not call. -/
theorem iop_some {d n : Nat} {call : Call} {t : ET V d} {e : Env} {hf : HF} {h : H} (he : RE d n t e) (hr : RH hf h) {i : I} (hnc : ∀ f l, i ≠ .call f l) (hnv : ∀ f l, i ≠ .callv f l) {k : KC} {r : V} (x : (ioC d n i).f call t hf k = some r) : Hs (iop e h i) k r := by
  cases i
  case mv a =>
    have x' : ((evC d n a).g t fun v => k v hf : R) = some r := x
    rw [evC_spec he] at x'
    exact ⟨_, _, _, rfl, hr, x'⟩
  case same a =>
    have x' : ((evC d n a).g t fun v => match v with | .str l => k (.str l) hf | _ => none : R) = some r := x
    rw [evC_spec he] at x'
    split at x'
    · rename_i l hl
      exact ⟨_, _, _, by simp only [iop, hl], hr, x'⟩
    · cases x'
  case nilchk a =>
    have x' : ((evC d n a).g t fun v => match v with | .ptr b o => k (.ptr b o) hf | .pint kd zs i => k (.pint kd zs i) hf | .plst xs i => k (.plst xs i) hf | .func f a b => k (.func f a b) hf | _ => none : R) = some r := x
    rw [evC_spec he] at x'
    split at x'
    · rename_i hl; exact ⟨_, _, _, by simp only [iop, hl], hr, x'⟩
    · rename_i hl; exact ⟨_, _, _, by simp only [iop, hl], hr, x'⟩
    · rename_i hl; exact ⟨_, _, _, by simp only [iop, hl], hr, x'⟩
    · rename_i hl; exact ⟨_, _, _, by simp only [iop, hl], hr, x'⟩
    · cases x'
  case pick c a b =>
    have x' : ((evC d n c).g t fun v => condK v ((evC d n a).g t fun v => k v hf) ((evC d n b).g t fun v => k v hf) : R) = some r := x
    rw [evC_spec he c, evC_spec he a, evC_spec he b] at x'
    obtain ⟨u, hu, x2⟩ := condK_some x'
    cases u with
    | true => exact ⟨_, _, _, by simp only [iop, hu, if_true], hr, x2⟩
    | false => exact ⟨_, _, _, by simp only [iop, hu, Bool.false_eq_true, if_false], hr, x2⟩
  case box a =>
    have x' : ((evC d n a).g t fun v => optK v.cells fun l => hf.new (.cs l) fun i h => k (.ptr i 0) h : R) = some r := x
    rw [evC_spec he] at x'
    obtain ⟨l, h1, x2⟩ := optK_some x'
    obtain ⟨hf', h2, x3⟩ := new_some hr x2
    exact ⟨_, _, hf', by simp only [iop, h1], h2, x3⟩
  case alloc zs int =>
    have x' : (optK (mkRow int zs) fun q => forceRC q fun q => hf.new q fun i h => k (.ptr i 0) h : R) = some r := x
    obtain ⟨q, h1, x2⟩ := optK_some x'
    rw [forceRC_eq] at x2
    obtain ⟨hf', h2, x3⟩ := new_some hr x2
    exact ⟨_, _, hf', by simp only [iop, h1], h2, x3⟩
  case build zs parts =>
    have x' : ((fillC d n parts).f t zs fun l => k (.agg l) hf : R) = some r := x
    obtain ⟨l, h1, x2⟩ := fillC_some he x'
    exact ⟨_, _, hf, by simp only [iop, h1], hr, x2⟩
  case bslice sz m zs int parts =>
    have x' : ((fillC d n parts).f t zs fun l => optK (mkRow int l) fun q => forceRC q fun q => hf.new q fun i h => k (.sl i 0 sz m (some m)) h : R) = some r := x
    obtain ⟨l, h1, x2⟩ := fillC_some he x'
    obtain ⟨q, h2, x3⟩ := optK_some x2
    rw [forceRC_eq] at x3
    obtain ⟨hf', h3, x4⟩ := new_some hr x3
    exact ⟨_, _, hf', by simp only [iop, h1, h2], h3, x4⟩
  case load agg m a =>
    have x' : ((evC d n a).g t fun a => loadK hf agg m a fun v => k v hf : R) = some r := x
    rw [evC_spec he] at x'
    obtain ⟨v, h1, x2⟩ := loadK_some hr x'
    exact ⟨_, _, hf, by simp only [iop, h1], hr, x2⟩
  case store m a b =>
    have x' : ((evC d n a).g t fun a => (evC d n b).g t fun x => storeK hf m a x fun h => k (.tup []) h : R) = some r := x
    rw [evC_spec he, evC_spec he] at x'
    obtain ⟨h', hf', h1, h2, x2⟩ := storeK_some hr x'
    exact ⟨_, _, hf', by simp only [iop, h1], h2, x2⟩
  case faddr off a =>
    have x' : ((evC d n a).g t fun a => ofOpt (moveP off a) fun v => k v hf : R) = some r := x
    rw [evC_spec he] at x'
    obtain ⟨v, h1, x2⟩ := ofOpt_some x'
    exact ⟨_, _, hf, by simp only [iop, h1], hr, x2⟩
  case field agg off m a =>
    have x' : ((evC d n a).g t fun x => match x with | .agg xs => ofOptA (cellsAt agg xs off m) fun v => k v hf | _ => none : R) = some r := x
    rw [evC_spec he] at x'
    split at x'
    · rename_i xs hl
      obtain ⟨v, h1, x2⟩ := ofOptA_some x'
      exact ⟨_, _, hf, by simp only [iop, hl, h1], hr, x2⟩
    · cases x'
  case iaddrS sz a b =>
    have x' : ((evC d n a).g t fun x => (evC d n b).g t fun i => ofOpt (elemAddr sz x i) fun v => k v hf : R) = some r := x
    rw [evC_spec he, evC_spec he] at x'
    obtain ⟨v, h1, x2⟩ := ofOpt_some x'
    exact ⟨_, _, hf, by simp only [iop, h1], hr, x2⟩
  case iaddrA len sz a b =>
    have x' : ((evC d n a).g t fun x => (evC d n b).g t fun i => onInt i fun _ i => condB (decide (0 ≤ i) && decide (i < len)) (ofOpt (moveP (i.toNat * sz) x) fun v => k v hf) none : R) = some r := x
    rw [evC_spec he, evC_spec he] at x'
    obtain ⟨kd, z, h1, x2⟩ := onInt_some x'
    obtain ⟨h2, x3⟩ := condB_some x2
    obtain ⟨v, h3, x4⟩ := ofOpt_some x3
    exact ⟨_, _, hf, by simp only [iop, h1, h2, if_true, h3], hr, x4⟩
  case idxS a b =>
    have x' : ((evC d n a).g t fun x => (evC d n b).g t fun i => match x with | .str l => onInt i fun _ i => condB (decide (0 ≤ i)) (nthK l i.toNat fun c => k (.int .u8 (Int.ofNat c)) hf) none | _ => none : R) = some r := x
    rw [evC_spec he, evC_spec he] at x'
    split at x'
    · rename_i l hl
      obtain ⟨kd, z, h1, x2⟩ := onInt_some x'
      obtain ⟨h2, x3⟩ := condB_some x2
      obtain ⟨c, h3, x4⟩ := nthK_some x3
      obtain ⟨hlt, rfl⟩ := List.getElem?_eq_some_iff.1 h3
      have h0 : 0 ≤ z := by simpa using h2
      have h4 : (decide (0 ≤ z) && decide (z < (l.length : Int))) = true := by simp [h0]; omega
      have h5 : l.getD z.toNat 0 = l[z.toNat] := by simp [List.getD, hlt]
      refine ⟨.int .u8 (Int.ofNat (l.getD z.toNat 0)), h, hf, ?_, hr, by rw [h5]; exact x4⟩
      simp only [iop, hl, h1]
      rw [if_pos h4]
    · cases x'
  case idxA agg len sz a b =>
    have x' : ((evC d n a).g t fun x => (evC d n b).g t fun i => match x with | .agg xs => onInt i fun _ i => condB (decide (0 ≤ i) && decide (i < len)) (ofOptA (cellsAt agg xs (i.toNat * sz) sz) fun v => k v hf) none | _ => none : R) = some r := x
    rw [evC_spec he, evC_spec he] at x'
    split at x'
    · rename_i l hl
      obtain ⟨kd, z, h1, x2⟩ := onInt_some x'
      obtain ⟨h2, x3⟩ := condB_some x2
      obtain ⟨v, h3, x4⟩ := ofOptA_some x3
      exact ⟨_, _, hf, by simp only [iop, hl, h1, h2, if_true, h3], hr, x4⟩
    · cases x'
  case slS a lo hi =>
    have x' : ((evC d n a).g t fun x => optG d n lo t fun lo => optG d n hi t fun hi => match x with | .str l => optK (boundsV l.length l.length lo hi none) fun p => forceL ((l.take p.2.1).drop p.1) fun l => k (.str l) hf | _ => none : R) = some r := x
    rw [evC_spec he] at x'
    rw [optG_spec he, optG_spec he] at x'
    split at x'
    · rename_i l hl
      obtain ⟨p, h1, x2⟩ := optK_some x'
      rw [forceL_eq] at x2
      have h2 := boundsV_eq e l.length l.length lo hi none
      exact ⟨_, _, hf, by simp only [iop, hl, h2, Option.map_none, h1], hr, x2⟩
    · cases x'
  case slL ik sz a lo hi mx =>
    have x' : ((evC d n a).g t fun x => optG d n lo t fun lo => optG d n hi t fun hi => optG d n mx t fun mx => ofOptA (sliceVV ik sz x lo hi mx) fun v => k v hf : R) = some r := x
    rw [evC_spec he] at x'
    rw [optG_spec he, optG_spec he, optG_spec he] at x'
    obtain ⟨v, h1, x2⟩ := ofOptA_some x'
    exact ⟨_, _, hf, by simp only [iop, sliceVV_eq, h1], hr, x2⟩
  case mksl sz bytes zs int a b =>
    have x' : ((evC d n a).g t fun l => (evC d n b).g t fun c => onInt l fun _ n => onInt c fun _ m => condB (decide (0 ≤ n) && decide (n ≤ m) && decide (m * bytes ≤ 140737488355328) && decide (m ≤ 140737488355328)) (forceRC (zeroRow int zs m.toNat) fun r => hf.new r fun i h => forceN n.toNat fun a => forceN m.toNat fun b => k (.sl i 0 sz a (some b)) h) none : R) = some r := x
    rw [evC_spec he, evC_spec he] at x'
    obtain ⟨_, z, h1, x2⟩ := onInt_some x'
    obtain ⟨_, z2, h2, x3⟩ := onInt_some x2
    obtain ⟨h3, x4⟩ := condB_some x3
    rw [forceRC_eq] at x4
    obtain ⟨hf', h4, x5⟩ := new_some hr x4
    rw [forceN_eq, forceN_eq] at x5
    exact ⟨_, _, hf', by simp only [iop, h1, h2, h3, if_true], h4, x5⟩
  case bin op ty a b =>
    have x' : ((evC d n a).g t fun x => (evC d n b).g t fun y => (binC op ty).f x y fun v => k v hf : R) = some r := x
    rw [evC_spec he, evC_spec he] at x'
    obtain ⟨v, h1, x2⟩ := binC_some x'
    exact ⟨_, _, hf, by simp only [iop, h1], hr, x2⟩
  case un op a =>
    have x' : ((evC d n a).g t fun x => ofOpt (unV op x) fun v => k v hf : R) = some r := x
    rw [evC_spec he] at x'
    obtain ⟨v, h1, x2⟩ := ofOpt_some x'
    exact ⟨_, _, hf, by simp only [iop, h1], hr, x2⟩
  case toInt kd a =>
    have x' : ((evC d n a).g t fun x => onInt x fun _ z => forceZ (kd.wrap z) fun z => k (.int kd z) hf : R) = some r := x
    rw [evC_spec he] at x'
    obtain ⟨_, z, h1, x2⟩ := onInt_some x'
    rw [forceZ_eq] at x2
    exact ⟨_, _, hf, by simp only [iop, h1], hr, x2⟩
  case toFlt kd a =>
    have x' : ((evC d n a).g t fun x => onInt x fun _ z => forceN (kd.nearest z) fun z => k (.flt kd z) hf : R) = some r := x
    rw [evC_spec he] at x'
    obtain ⟨_, z, h1, x2⟩ := onInt_some x'
    rw [forceN_eq] at x2
    exact ⟨_, _, hf, by simp only [iop, h1], hr, x2⟩
  case s2b a =>
    have x' : ((evC d n a).g t fun x => match x with | .str l => condB (decide (l.length ≤ 140737488355328)) (forceRC (.is .u8 (l.map Int.ofNat)) fun r => hf.new r fun i h => forceN l.length fun n => k (.sl i 0 1 n none) h) none | _ => none : R) = some r := x
    rw [evC_spec he] at x'
    split at x'
    · rename_i l hl
      obtain ⟨h1, x2⟩ := condB_some x'
      rw [forceRC_eq] at x2
      obtain ⟨hf', h2, x3⟩ := new_some hr x2
      rw [forceN_eq] at x3
      exact ⟨_, _, hf', by simp only [iop, hl, h1, if_true], h2, x3⟩
    · cases x'
  case b2s a =>
    have x' : ((evC d n a).g t fun x => elemsK hf 1 x fun rc => match rc with | .is .u8 zs => optK (lenV x) fun n => condB (zs.length == n) (forceL (zs.map fun z => z.toNat % 256) fun l => k (.str l) hf) none | _ => none : R) = some r := x
    rw [evC_spec he] at x'
    obtain ⟨q, h1, x2⟩ := elemsK_some hr x'
    split at x2
    · obtain ⟨m, h2, x3⟩ := optK_some x2
      obtain ⟨h3, x4⟩ := condB_some x3
      rw [forceL_eq] at x4
      exact ⟨_, _, hf, by simp only [iop, h1, h2, h3, if_true], hr, x4⟩
    · cases x2
  case lenS a =>
    have x' : ((evC d n a).g t fun x => match x with | .str l => forceN l.length fun n => k (.int .i64 (Int.ofNat n)) hf | _ => none : R) = some r := x
    rw [evC_spec he] at x'
    split at x'
    · rename_i l hl
      rw [forceN_eq] at x'
      exact ⟨_, _, hf, by simp only [iop, hl]; rfl, hr, x'⟩
    · cases x'
  case len a =>
    have x' : ((evC d n a).g t fun x => match x with | .sl _ _ _ n _ => k (.int .i64 (Int.ofNat n)) hf | .ints _ _ zs _ => forceN zs.length fun n => k (.int .i64 (Int.ofNat n)) hf | .lst _ _ n _ _ => k (.int .i64 (Int.ofNat n)) hf | _ => none : R) = some r := x
    rw [evC_spec he] at x'
    split at x'
    · rename_i hl
      exact ⟨_, _, hf, by simp only [iop, hl]; rfl, hr, x'⟩
    · rename_i hl
      rw [forceN_eq] at x'
      exact ⟨_, _, hf, by simp only [iop, hl]; rfl, hr, x'⟩
    · rename_i hl
      exact ⟨_, _, hf, by simp only [iop, hl]; rfl, hr, x'⟩
    · cases x'
  case cap a =>
    have x' : ((evC d n a).g t fun x => match x with | .sl _ _ _ _ (some c) | .ints _ _ _ (some c) | .lst _ _ _ _ (some c) => k (.int .i64 (Int.ofNat c)) hf | _ => none : R) = some r := x
    rw [evC_spec he] at x'
    split at x'
    · rename_i hl
      exact ⟨_, _, hf, by simp only [iop, hl]; rfl, hr, x'⟩
    · rename_i hl
      exact ⟨_, _, hf, by simp only [iop, hl]; rfl, hr, x'⟩
    · rename_i hl
      exact ⟨_, _, hf, by simp only [iop, hl]; rfl, hr, x'⟩
    · cases x'
  case min l =>
    have x' : (evsC d n l t fun l => match l with | x :: q => ofOpt (foldMin true x q) fun v => k v hf | [] => none : R) = some r := x
    rw [evsC_spec he] at x'
    split at x'
    · rename_i y q hl
      obtain ⟨v, h1, x2⟩ := ofOpt_some x'
      exact ⟨_, _, hf, by simp only [iop, hl, h1], hr, x2⟩
    · cases x'
  case max l =>
    have x' : (evsC d n l t fun l => match l with | x :: q => ofOpt (foldMin false x q) fun v => k v hf | [] => none : R) = some r := x
    rw [evsC_spec he] at x'
    split at x'
    · rename_i y q hl
      obtain ⟨v, h1, x2⟩ := ofOpt_some x'
      exact ⟨_, _, hf, by simp only [iop, hl, h1], hr, x2⟩
    · cases x'
  case append sz bytes a b =>
    have x' : ((evC d n a).g t fun x => (evC d n b).g t fun y => appendK hf sz bytes x y k : R) = some r := x
    rw [evC_spec he, evC_spec he] at x'
    exact appendK_some hr x'
  case copy sz a b =>
    have x' : ((evC d n a).g t fun x => (evC d n b).g t fun y => copyK hf sz x y k : R) = some r := x
    rw [evC_spec he, evC_spec he] at x'
    exact copyK_some hr x'
  case ext i a =>
    have x' : ((evC d n a).g t fun x => match x with | .tup xs => nthK xs i fun v => k v hf | _ => none : R) = some r := x
    rw [evC_spec he] at x'
    split at x'
    · rename_i xs hl
      obtain ⟨v, h1, x2⟩ := nthK_some x'
      exact ⟨_, _, hf, by simp only [iop, hl, h1], hr, x2⟩
    · cases x'
  case mkf f a b =>
    have x' : (evsC d n a t fun a => evsC d n b t fun b => k (.func f a b) hf : R) = some r := x
    rw [evsC_spec he, evsC_spec he] at x'
    exact ⟨_, _, hf, rfl, hr, x'⟩
  case mkmap =>
    have x' : (HF.rec (motive := fun _ => R) (fun t m clk maps => forceN maps.length fun i => forceL (maps ++ [[]]) fun maps => k (.map i) ⟨t, m, clk, maps⟩) hf : R) = some r := x
    obtain ⟨t0, m0, clk0, maps0⟩ := hf
    have x2 : (forceN maps0.length fun i => forceL (maps0 ++ [[]]) fun maps => k (.map i) ⟨t0, m0, clk0, maps⟩ : R) = some r := x'
    rw [forceN_eq, forceL_eq] at x2
    have hm : maps0 = h.maps := hr.maps
    subst hm
    exact ⟨_, h.newMap, ⟨t0, m0, clk0, h.maps ++ [[]]⟩, rfl, ⟨hr.n, hr.clk, hr.cap, hr.get, rfl⟩, x2⟩
  case mset kt a b c =>
    have x' : ((evC d n a).g t fun m => (evC d n b).g t fun a => (evC d n c).g t fun x => msetK hf kt m a x fun h => k (.tup []) h : R) = some r := x
    rw [evC_spec he, evC_spec he, evC_spec he] at x'
    obtain ⟨h', hf', h1, h2, x2⟩ := msetK_some hr x'
    exact ⟨_, _, hf', by simp only [iop, h1], h2, x2⟩
  case mget kt z ok a b =>
    have x' : ((evC d n a).g t fun m => (evC d n b).g t fun a => mgetK hf kt z ok m a fun v => k v hf : R) = some r := x
    rw [evC_spec he, evC_spec he] at x'
    obtain ⟨v, h1, x2⟩ := mgetK_some hr x'
    exact ⟨_, _, hf, by simp only [iop, h1], hr, x2⟩
  case mlen a =>
    have x' : ((evC d n a).g t fun x => entK hf x fun l => forceN l.length fun n => k (.int .i64 (Int.ofNat n)) hf : R) = some r := x
    rw [evC_spec he] at x'
    obtain ⟨l, h1, x2⟩ := entK_some hr x'
    rw [forceN_eq] at x2
    exact ⟨_, _, hf, by simp only [iop, h1]; rfl, hr, x2⟩
  case call f l => exact (hnc _ _ rfl).elim
  case callv f l => exact (hnv _ _ rfl).elim
  case bad => cases x

end Go.AM.F
