/- A faster evaluator, made for the kernel: code becomes closures that it keeps; runs go on in continuations; slots and rows lie in trees. -/
import Derived.Test.YtgfohimonbagmaaGreatDoorAMDefs
set_option linter.unusedVariables false
namespace Go.AM.F

/-- What a run comes to. -/
abbrev R := Option V

inductive N (α : Type) where
  | mk (a0 a1 a2 a3 a4 a5 a6 a7 : α)

/-- A tree, so deep. -/
def ET (α : Type) : Nat → Type
  | 0 => α
  | d + 1 => N (ET α d)

def ET.all {α : Type} (v : α) : (d : Nat) → ET α d
  | 0 => v
  | d + 1 => .mk (ET.all v d) (ET.all v d) (ET.all v d) (ET.all v d) (ET.all v d) (ET.all v d) (ET.all v d) (ET.all v d)

structure G (α : Type) (d : Nat) where
  g : ET α d → (α → R) → R
structure S (α : Type) (d : Nat) where
  s : α → ET α d → (ET α d → R) → R

noncomputable def pick8 {β : Type} (b0 b1 b2 b3 b4 b5 b6 b7 : β) (i : Nat) : β :=
  Nat.rec b0 (fun i _ => Nat.rec b1 (fun i _ => Nat.rec b2 (fun i _ => Nat.rec b3 (fun i _ => Nat.rec b4 (fun i _ => Nat.rec b5 (fun i _ => Nat.rec b6 (fun _ _ => b7) i) i) i) i) i) i) i

noncomputable def getStep {α : Type} {d : Nat} (g : ET α d → (α → R) → R) (j : Nat) : G α (d + 1) := pick8 ⟨fun t => N.rec (fun a0 _ _ _ _ _ _ _ => g a0) t⟩ ⟨fun t => N.rec (fun _ a1 _ _ _ _ _ _ => g a1) t⟩ ⟨fun t => N.rec (fun _ _ a2 _ _ _ _ _ => g a2) t⟩ ⟨fun t => N.rec (fun _ _ _ a3 _ _ _ _ => g a3) t⟩ ⟨fun t => N.rec (fun _ _ _ _ a4 _ _ _ => g a4) t⟩ ⟨fun t => N.rec (fun _ _ _ _ _ a5 _ _ => g a5) t⟩ ⟨fun t => N.rec (fun _ _ _ _ _ _ a6 _ => g a6) t⟩ ⟨fun t => N.rec (fun _ _ _ _ _ _ _ a7 => g a7) t⟩ j
noncomputable def setStep {α : Type} {d : Nat} (s : α → ET α d → (ET α d → R) → R) (j : Nat) : S α (d + 1) := pick8 ⟨fun v t => N.rec (fun a0 a1 a2 a3 a4 a5 a6 a7 v k => s v a0 (fun x => k (.mk x a1 a2 a3 a4 a5 a6 a7))) t v⟩ ⟨fun v t => N.rec (fun a0 a1 a2 a3 a4 a5 a6 a7 v k => s v a1 (fun x => k (.mk a0 x a2 a3 a4 a5 a6 a7))) t v⟩ ⟨fun v t => N.rec (fun a0 a1 a2 a3 a4 a5 a6 a7 v k => s v a2 (fun x => k (.mk a0 a1 x a3 a4 a5 a6 a7))) t v⟩ ⟨fun v t => N.rec (fun a0 a1 a2 a3 a4 a5 a6 a7 v k => s v a3 (fun x => k (.mk a0 a1 a2 x a4 a5 a6 a7))) t v⟩ ⟨fun v t => N.rec (fun a0 a1 a2 a3 a4 a5 a6 a7 v k => s v a4 (fun x => k (.mk a0 a1 a2 a3 x a5 a6 a7))) t v⟩ ⟨fun v t => N.rec (fun a0 a1 a2 a3 a4 a5 a6 a7 v k => s v a5 (fun x => k (.mk a0 a1 a2 a3 a4 x a6 a7))) t v⟩ ⟨fun v t => N.rec (fun a0 a1 a2 a3 a4 a5 a6 a7 v k => s v a6 (fun x => k (.mk a0 a1 a2 a3 a4 a5 x a7))) t v⟩ ⟨fun v t => N.rec (fun a0 a1 a2 a3 a4 a5 a6 a7 v k => s v a7 (fun x => k (.mk a0 a1 a2 a3 a4 a5 a6 x))) t v⟩ j
noncomputable def getC (α : Type) (d : Nat) : Nat → G α d :=
  Nat.rec (motive := fun d => Nat → G α d) (fun _ => ⟨fun t k => k t⟩) (fun _ ih i => G.rec (fun g => getStep g (Nat.mod i 8)) (ih (Nat.div i 8))) d
noncomputable def setC (α : Type) (d : Nat) : Nat → S α d :=
  Nat.rec (motive := fun d => Nat → S α d) (fun _ => ⟨fun v _ k => k v⟩) (fun _ ih i => S.rec (fun s => setStep s (Nat.mod i 8)) (ih (Nat.div i 8))) d

/-- Force a number. -/
noncomputable def forceN (n : Nat) : (Nat → R) → R := Nat.rec (fun k => k 0) (fun m _ k => k (Nat.succ m)) n

/-- Five levels: 32768 rows. -/
structure HF where
  t : ET Row 5
  n : Nat
  clk : Nat
  maps : List (List (V × V))

noncomputable def HF.empty : HF := ⟨ET.all ⟨.cs [], 0, true⟩ 5, 0, 0, []⟩

/-- A row that is alive. -/
noncomputable def HF.row (h : HF) (b : Nat) (k : Row → R) : R :=
  Bool.rec none ((getC Row 5 b).g h.t (fun r => Bool.rec (k r) none r.dead)) (Nat.blt b h.n)
noncomputable def HF.put (h : HF) (b : Nat) (c : RC) (k : HF → R) : R :=
  HF.rec (fun t n clk maps => (setC Row 5 b).s ⟨c, clk, false⟩ t (fun t' => forceN (Nat.succ clk) (fun clk' => k ⟨t', n, clk', maps⟩))) h
noncomputable def HF.kill (h : HF) (b : Nat) (k : HF → R) : R :=
  HF.rec (fun t n clk maps => (setC Row 5 b).s ⟨.cs [], clk, true⟩ t (fun t' => forceN (Nat.succ clk) (fun clk' => k ⟨t', n, clk', maps⟩))) h
/-- A new row: its number, too. -/
noncomputable def HF.new (h : HF) (c : RC) (k : Nat → HF → R) : R :=
  HF.rec (fun t n clk maps => Bool.rec none ((setC Row 5 n).s ⟨c, clk, false⟩ t (fun t' => forceN (Nat.succ clk) (fun clk' => forceN (Nat.succ n) (fun n' => k n ⟨t', n', clk', maps⟩)))) (Nat.blt n 32768)) h

abbrev KC := V → HF → R
abbrev Call := FuncId → List V → HF → KC → R
/-- Code: what follows when it ends, what when it leaves. -/
structure Cd (d : Nat) where
  f : Call → ET V d → HF → (ET V d → HF → R) → (X → ET V d → HF → R) → R
structure Os (d : Nat) where
  f : Call → ET V d → HF → (ET V d → HF → R) → R
structure OsD (d : Nat) where
  f : Call → Seen → ET V d → HF → (ET V d → HF → R) → R
structure Io (d : Nat) where
  f : Call → ET V d → HF → KC → R

noncomputable def evC (d n : Nat) : O → G V d
  | .t i => if i < n then getC V d i else ⟨fun _ k => k .undef⟩
  | .c v => ⟨fun _ k => k v⟩
noncomputable def optK {α : Type} (o : Option α) : (α → R) → R := Option.rec (fun _ => none) (fun v k => k v) o
noncomputable def iteK (b : Bool) : R → R := Bool.rec (fun _ => none) (fun r => r) b

noncomputable def onInt : V → (IntKind → Int → R) → R := @V.rec (fun _ => (IntKind → Int → R) → R) (fun _ => Unit) (fun _ => none) (fun _ => fun _ => none) (fun kd z => fun k => k kd z) (fun _ _ => fun _ => none) (fun _ => fun _ => none) (fun _ _ => fun _ => none) (fun _ _ _ => fun _ => none) (fun _ _ _ => fun _ => none) (fun _ => none) (fun _ _ _ _ _ => fun _ => none) (fun _ _ _ _ => fun _ => none) (fun _ _ _ _ _ _ => fun _ => none) (fun _ _ _ _ _ => fun _ => none) (fun _ => none) (fun _ _ => fun _ => none) (fun _ _ => fun _ => none) (fun _ => fun _ => none) (fun _ => none) () (fun _ _ _ _ => ())
/-- A whole number, or else. -/
noncomputable def onIntD : V → (IntKind → Int → R) → R → R := @V.rec (fun _ => (IntKind → Int → R) → R → R) (fun _ => Unit) (fun _ d => d) (fun _ => fun _ d => d) (fun kd z => fun k _ => k kd z) (fun _ _ => fun _ d => d) (fun _ => fun _ d => d) (fun _ _ => fun _ d => d) (fun _ _ _ => fun _ d => d) (fun _ _ _ => fun _ d => d) (fun _ d => d) (fun _ _ _ _ _ => fun _ d => d) (fun _ _ _ _ => fun _ d => d) (fun _ _ _ _ _ _ => fun _ d => d) (fun _ _ _ _ _ => fun _ d => d) (fun _ d => d) (fun _ _ => fun _ d => d) (fun _ _ => fun _ d => d) (fun _ => fun _ d => d) (fun _ d => d) () (fun _ _ _ _ => ())
noncomputable def condK : V → R → R → R := @V.rec (fun _ => R → R → R) (fun _ => Unit) (fun _ _ => none) (fun b => fun x y => Bool.rec y x b) (fun _ _ => fun _ _ => none) (fun _ _ => fun _ _ => none) (fun _ => fun _ _ => none) (fun _ _ => fun _ _ => none) (fun _ _ _ => fun _ _ => none) (fun _ _ _ => fun _ _ => none) (fun _ _ => none) (fun _ _ _ _ _ => fun _ _ => none) (fun _ _ _ _ => fun _ _ => none) (fun _ _ _ _ _ _ => fun _ _ => none) (fun _ _ _ _ _ => fun _ _ => none) (fun _ _ => none) (fun _ _ => fun _ _ => none) (fun _ _ => fun _ _ => none) (fun _ => fun _ _ => none) (fun _ _ => none) () (fun _ _ _ _ => ())
noncomputable def askK : V → Bool → R → R → R := @V.rec (fun _ => Bool → R → R → R) (fun _ => Unit) (fun _ _ _ => none) (fun b => fun w x y => Bool.rec (Bool.rec x y w) (Bool.rec y x w) b) (fun _ _ => fun _ _ _ => none) (fun _ _ => fun _ _ _ => none) (fun _ => fun _ _ _ => none) (fun _ _ => fun _ _ _ => none) (fun _ _ _ => fun _ _ _ => none) (fun _ _ _ => fun _ _ _ => none) (fun _ _ _ => none) (fun _ _ _ _ _ => fun _ _ _ => none) (fun _ _ _ _ => fun _ _ _ => none) (fun _ _ _ _ _ _ => fun _ _ _ => none) (fun _ _ _ _ _ => fun _ _ _ => none) (fun _ _ _ => none) (fun _ _ => fun _ _ _ => none) (fun _ _ => fun _ _ y => y) (fun _ => fun _ _ _ => none) (fun _ _ _ => none) () (fun _ _ _ _ => ())

noncomputable def forceZ (z : Int) : (Int → R) → R := Int.rec (fun n k => forceN n (fun m => k (.ofNat m))) (fun n k => forceN n (fun m => k (.negSucc m))) z
/-- Force a value's outside, and a number within. -/
noncomputable def forceV : V → (V → R) → R := @V.rec (fun _ => (V → R) → R) (fun _ => Unit) (fun k => k .undef) (fun b => fun k => Bool.rec (k (.bool false)) (k (.bool true)) b) (fun kd z => fun k => forceZ z (fun z => k (.int kd z))) (fun kd b => fun k => k (.flt kd b)) (fun l => fun k => k (.str l)) (fun b o => fun k => forceN b (fun b => forceN o (fun o => k (.ptr b o)))) (fun kd zs i => fun k => forceN i (fun i => k (.pint kd zs i))) (fun xs i _ => fun k => forceN i (fun i => k (.plst xs i))) (fun k => k .nilp) (fun b o sz n c => fun k => forceN b (fun b => forceN o (fun o => forceN n (fun n => k (.sl b o sz n c))))) (fun kd nl zs c => fun k => k (.ints kd nl zs c)) (fun sz nl n xs c _ => fun k => forceN n (fun n => k (.lst sz nl n xs c))) (fun f a b _ _ => fun k => k (.func f a b)) (fun k => k .nilf) (fun xs _ => fun k => k (.agg xs)) (fun xs _ => fun k => k (.tup xs)) (fun b => fun k => forceN b (fun b => k (.map b))) (fun k => k .nilmap) () (fun _ _ _ _ => ())

/-! Lists. -/
noncomputable def forceL {α : Type} (l : List α) : (List α → R) → R := List.rec (fun k => k []) (fun x _ ih k => ih (fun r => k (x :: r))) l
noncomputable def nthK {α : Type} (l : List α) : Nat → (α → R) → R := List.rec (fun _ _ => none) (fun x _ ih i => Nat.rec (fun k => k x) (fun m _ => ih m) i) l
noncomputable def setK {α : Type} (l : List α) (v : α) : Nat → (List α → R) → R := List.rec (fun _ _ => none) (fun x r ih i => Nat.rec (fun k => k (v :: r)) (fun m _ k => ih m (fun r' => k (x :: r'))) i) l
noncomputable def forceRC (c : RC) : (RC → R) → R := RC.rec (fun kd zs k => forceL zs (fun zs => k (.is kd zs))) (fun xs k => forceL xs (fun xs => k (.cs xs))) c
noncomputable def getK (c : RC) : Nat → (V → R) → R := RC.rec (fun kd zs i k => nthK zs i (fun z => k (.int kd z))) (fun xs => nthK xs) c
noncomputable def condB (b : Bool) : R → R → R := Bool.rec (fun _ y => y) (fun x _ => x) b
noncomputable def ofOpt (o : Option V) (k : V → R) : R := optK o (fun v => forceV v k)

/-! Operations that look at the heap. -/
noncomputable def elemsK (h : HF) (sz : Nat) (v : V) (k : RC → R) : R :=
  match v with
  | .ints kd _ zs _ => condB (sz == 1) (k (.is kd zs)) none
  | .lst sz' _ _ xs _ => condB (sz == sz') (k (.cs xs)) none
  | .str l => condB (sz == 1) (forceRC (.is .u8 (l.map Int.ofNat)) k) none
  | .sl b o sz' len _ => condB (sz == sz')
      (h.row b fun r => match r.c with
        | .is kd zs => condB (decide (o + len * sz ≤ zs.length)) (forceRC (.is kd ((zs.drop o).take (len * sz))) k) none
        | .cs xs => condB (decide (o + len * sz ≤ xs.length)) (forceRC (.cs ((xs.drop o).take (len * sz))) k) none)
      none
  | _ => none

noncomputable def appRowK (h : HF) (sz bytes b o m : Nat) (cap : Option Nat) (xs ys : RC) (n : Nat) (k : KC) : R :=
  h.row b fun q =>
    condB (decide (o + (m + n) * sz ≤ q.c.size) && capFits cap (m + n))
      (optK (q.c.over (o + m * sz) ys) fun r => forceRC r fun r => forceN (m + n) fun l => h.put b r fun h => k (.sl b o sz l cap) h)
      (condB (fits (m + n) bytes && decide (xs.size = m * sz))
        (optK (xs.app ys) fun r => condB r.ok
          (forceRC r fun r => forceN (m + n) fun l => match cap with
            | some c => condB (decide (c < m + n)) (h.new r fun i h => k (.sl i 0 sz l none) h) none
            | none => condB (decide (o + m * sz = q.c.size)) (h.kill b fun h => h.new r fun i h => k (.sl i 0 sz l none) h) none)
          none)
        none)

noncomputable def appendK (h : HF) (sz bytes : Nat) (x y : V) (k : KC) : R :=
  elemsK h sz y fun ys => optK (lenV y) fun n => elemsK h sz x fun xs => optK (lenV x) fun m =>
    condB (decide (ys.size = n * sz))
      (match x with
      | .sl b o sz' _ cap => condB (sz == sz') (appRowK h sz bytes b o m cap xs ys n k) none
      | x => match x.isNil with
        | some true => condB (n == 0) (k x h) (condB (fits n bytes && ys.ok) (h.new ys fun i h => forceN n fun n => k (.sl i 0 sz n none) h) none)
        | some false => match x.capOf with
          | some c => condB (decide (c < m + n) && fits (m + n) bytes && decide (xs.size = m * sz))
              (optK (xs.app ys) fun r => condB r.ok (forceRC r fun r => h.new r fun i h => forceN (m + n) fun l => k (.sl i 0 sz l none) h) none)
              none
          | none => none
        | none => none)
      none

noncomputable def copyK (h : HF) (sz : Nat) (x y : V) (k : KC) : R :=
  optK (lenV x) fun m => optK (lenV y) fun n => elemsK h sz y fun ys =>
    match x with
    | .sl b o sz' _ _ => condB (sz == sz' && decide (ys.size = n * sz))
        (h.row b fun r => optK (r.c.over o (ys.take (Nat.min n m * sz))) fun r => forceRC r fun r => h.put b r fun h => forceN (Nat.min n m) fun q => k (.int .i64 (Int.ofNat q)) h)
        none
    | _ => none



/-! Whole numbers. -/
noncomputable def ikN : IntKind → Nat := @IntKind.rec (fun _ => Nat) 0 1 2 3 4 5 6 7 
noncomputable def wrapS (lim : Nat) (kd : IntKind) (z : Int) : (Int → R) → R :=
  Int.rec (fun n k => Bool.rec (forceZ (kd.wrap (.ofNat n)) k) (forceN n fun n => k (.ofNat n)) (Nat.blt n lim)) (fun n k => Bool.rec (forceZ (kd.wrap (.negSucc n)) k) (forceN n fun n => k (.negSucc n)) (Nat.blt n lim)) z
noncomputable def wrapU (lim : Nat) (kd : IntKind) (z : Int) : (Int → R) → R :=
  Int.rec (fun n k => forceN (Nat.mod n lim) fun n => k (.ofNat n)) (fun n k => forceZ (kd.wrap (.negSucc n)) k) z
noncomputable def wrapK : IntKind → Int → (Int → R) → R := @IntKind.rec (fun _ => Int → (Int → R) → R) (wrapS 128 .i8) (wrapS 32768 .i16) (wrapS 2147483648 .i32) (wrapS 9223372036854775808 .i64) (wrapU 256 .u8) (wrapU 65536 .u16) (wrapU 4294967296 .u32) (wrapU 18446744073709551616 .u64) 
/-- Two whole numbers of one kind; anything else. -/
noncomputable def onInts (f : IntKind → Int → Int → (V → R) → R) (g : V → V → (V → R) → R) (x y : V) (k : V → R) : R :=
  onIntD x (fun kd a => onIntD y (fun kd' b => Bool.rec (g x y k) (f kd a b k) (Nat.beq (ikN kd) (ikN kd'))) (g x y k)) (g x y k)
noncomputable def natNat (f : Nat → Nat → (Int → R) → R) (g : Int → Int → (Int → R) → R) (a : Int) : Int → Int → (Int → R) → R :=
  Int.rec (fun n a b k => Int.rec (fun m a k => f n m k) (fun m a k => g a (.negSucc m) k) b a k) (fun _ a b k => g a b k) a
noncomputable def addI (kd : IntKind) (a b : Int) (k : V → R) : R := natNat (fun n m k => wrapK kd (.ofNat (Nat.add n m)) k) (fun a b k => forceZ (kd.wrap (a + b)) k) a a b fun z => k (.int kd z)
noncomputable def subI (kd : IntKind) (a b : Int) (k : V → R) : R := natNat (fun n m k => Bool.rec (forceZ (kd.wrap (.ofNat n - .ofNat m)) k) (wrapK kd (.ofNat (Nat.sub n m)) k) (Nat.ble m n)) (fun a b k => forceZ (kd.wrap (a - b)) k) a a b fun z => k (.int kd z)
noncomputable def mulI (kd : IntKind) (a b : Int) (k : V → R) : R := natNat (fun n m k => wrapK kd (.ofNat (Nat.mul n m)) k) (fun a b k => forceZ (kd.wrap (a * b)) k) a a b fun z => k (.int kd z)
noncomputable def cmpI (f : Nat → Nat → Bool) (g : Int → Int → Bool) (a b : Int) (k : V → R) : R :=
  Int.rec (fun n a b k => Int.rec (fun m a k => Bool.rec (k (.bool false)) (k (.bool true)) (f n m)) (fun m a k => Bool.rec (k (.bool false)) (k (.bool true)) (g a (.negSucc m))) b a k) (fun _ a b k => Bool.rec (k (.bool false)) (k (.bool true)) (g a b)) a a b k
noncomputable def orGen (op : BinOp) (ty : Ty) (x y : V) (k : V → R) : R := ofOpt (binV op ty x y) k
noncomputable def binK (op : BinOp) (ty : Ty) (x y : V) (k : V → R) : R :=
  match op with
  | .add => onInts addI (orGen .add ty) x y k
  | .sub => onInts subI (orGen .sub ty) x y k
  | .mul => onInts mulI (orGen .mul ty) x y k
  | .eql => onInts (fun _ => cmpI Nat.beq (fun a b => a == b)) (orGen .eql ty) x y k
  | .neq => onInts (fun _ => cmpI (fun n m => Bool.rec true false (Nat.beq n m)) (fun a b => a != b)) (orGen .neq ty) x y k
  | .lss => onInts (fun _ => cmpI Nat.blt (fun a b => decide (a < b))) (orGen .lss ty) x y k
  | .leq => onInts (fun _ => cmpI Nat.ble (fun a b => decide (a ≤ b))) (orGen .leq ty) x y k
  | .gtr => onInts (fun _ => cmpI (fun n m => Nat.blt m n) (fun a b => decide (a > b))) (orGen .gtr ty) x y k
  | .geq => onInts (fun _ => cmpI (fun n m => Nat.ble m n) (fun a b => decide (a ≥ b))) (orGen .geq ty) x y k
  | op => orGen op ty x y k
structure Bi where
  f : V → V → (V → R) → R
noncomputable def binC (op : BinOp) (ty : Ty) : Bi :=
  match op with
  | .add => ⟨fun x y k => onInts addI (orGen .add ty) x y k⟩
  | .sub => ⟨fun x y k => onInts subI (orGen .sub ty) x y k⟩
  | .mul => ⟨fun x y k => onInts mulI (orGen .mul ty) x y k⟩
  | .eql => ⟨fun x y k => onInts (fun _ => cmpI Nat.beq (fun a b => a == b)) (orGen .eql ty) x y k⟩
  | .neq => ⟨fun x y k => onInts (fun _ => cmpI (fun n m => Bool.rec true false (Nat.beq n m)) (fun a b => a != b)) (orGen .neq ty) x y k⟩
  | .lss => ⟨fun x y k => onInts (fun _ => cmpI Nat.blt (fun a b => decide (a < b))) (orGen .lss ty) x y k⟩
  | .leq => ⟨fun x y k => onInts (fun _ => cmpI Nat.ble (fun a b => decide (a ≤ b))) (orGen .leq ty) x y k⟩
  | .gtr => ⟨fun x y k => onInts (fun _ => cmpI (fun n m => Nat.blt m n) (fun a b => decide (a > b))) (orGen .gtr ty) x y k⟩
  | .geq => ⟨fun x y k => onInts (fun _ => cmpI (fun n m => Nat.ble m n) (fun a b => decide (a ≥ b))) (orGen .geq ty) x y k⟩
  | op => ⟨orGen op ty⟩

/-! Rows. -/
noncomputable def getRC (c : RC) : Nat → (V → R) → R := RC.rec (fun kd zs i k => nthK zs i (fun z => k (.int kd z))) (fun xs => nthK xs) c
/-- One cell written. -/
noncomputable def setRC (c : RC) : Nat → V → (RC → R) → R :=
  RC.rec (fun kd zs i v k => onInt v fun kd' z => Bool.rec none (setK zs z i fun zs => k (.is kd zs)) (Nat.beq (ikN kd) (ikN kd'))) (fun xs i v k => Bool.rec none (setK xs v i fun xs => k (.cs xs)) v.isCell) c
noncomputable def onAddr : V → (Nat → Nat → R) → (IntKind → List Int → Nat → R) → (List V → Nat → R) → R := @V.rec (fun _ => (Nat → Nat → R) → (IntKind → List Int → Nat → R) → (List V → Nat → R) → R) (fun _ => Unit) (fun _ _ _ => none) (fun _ => fun _ _ _ => none) (fun _ _ => fun _ _ _ => none) (fun _ _ => fun _ _ _ => none) (fun _ => fun _ _ _ => none) (fun b o => fun f _ _ => f b o) (fun kd zs i => fun _ f _ => f kd zs i) (fun xs i _ => fun _ _ f => f xs i) (fun _ _ _ => none) (fun _ _ _ _ _ => fun _ _ _ => none) (fun _ _ _ _ => fun _ _ _ => none) (fun _ _ _ _ _ _ => fun _ _ _ => none) (fun _ _ _ _ _ => fun _ _ _ => none) (fun _ _ _ => none) (fun _ _ => fun _ _ _ => none) (fun _ _ => fun _ _ _ => none) (fun _ => fun _ _ _ => none) (fun _ _ _ => none) () (fun _ _ _ _ => ())
noncomputable def loadK (h : HF) (agg : Bool) (n : Nat) (a : V) (k : V → R) : R :=
  onAddr a (fun b o => h.row b fun r => Bool.rec (getRC r.c o k) (optK (r.c.getN o n) fun l => forceL l fun l => k (.agg l)) agg)
    (fun kd zs i => Bool.rec (nthK zs i fun z => k (.int kd z)) none agg)
    (fun xs i => Bool.rec (nthK xs i k) (optK ((RC.cs xs).getN i n) fun l => forceL l fun l => k (.agg l)) agg)
noncomputable def storeK (h : HF) (n : Nat) (a x : V) (k : HF → R) : R :=
  (match a with
  | .ptr b o => h.row b fun r => match x with
    | .agg _ => optK x.cells fun l => condB (Nat.beq l.length n) (optK (r.c.setN o l) fun c => forceRC c fun c => h.put b c k) none
    | x => condB (Nat.beq n 1) (setRC r.c o x fun c => h.put b c k) none
  | _ => none)


/-- Operands. -/
noncomputable def evsC (d n : Nat) : List O → (ET V d → (List V → R) → R)
  | [] => fun _ k => k []
  | x :: r => fun e k => (evC d n x).g e fun v => evsC d n r e fun l => k (v :: l)
structure Gs (d : Nat) where
  g : ET V d → (List V → R) → R
noncomputable def evsG (d n : Nat) (l : List O) : Gs d := ⟨evsC d n l⟩

structure Fl (d : Nat) where
  f : ET V d → List V → (List V → R) → R
noncomputable def fillC (d n : Nat) : List (Nat × Nat × O) → Fl d
  | [] => ⟨fun _ zs k => k zs⟩
  | (off, size, x) :: r => ⟨fun e zs k => (evC d n x).g e fun v => optK v.cells fun cs =>
      condB (cs.length == size && decide (off + size ≤ zs.length)) (forceL (zs.take off ++ cs ++ zs.drop (off + size)) fun zs => (fillC d n r).f e zs k) none⟩

noncomputable def optG (d n : Nat) : Option O → (ET V d → (Option V → R) → R)
  | none => fun _ k => k none
  | some x => fun e k => (evC d n x).g e fun v => k (some v)

/-- The bounds, of values. -/
def boundsV (len cap : Nat) (lo hi mx : Option V) : Option (Nat × Nat × Nat) :=
  match (match mx with | some v => asNat v cap | none => some cap) with
  | none => none
  | some m =>
    match (match hi with | some v => asNat v m | none => match mx with | none => some len | some _ => none) with
    | none => none
    | some h =>
      match (match lo with | some v => asNat v h | none => some 0) with
      | none => none
      | some l => some (l, h, m)
def newCapV : Option V → Option Nat → Nat → Option Nat
  | none, none, _ => none
  | _, _, n => some n
def sliceVV (ik : Option IntKind) (sz : Nat) (x : V) (lo hi mx : Option V) : Option V :=
  match x with
  | .ints k nl zs cap =>
    match boundsV zs.length (capOr cap zs.length) lo hi mx with
    | some (l, h, m) => if sz == 1 && decide (h ≤ zs.length) then some (.ints k nl ((zs.take h).drop l) (newCapV mx cap (m - l))) else none
    | none => none
  | .lst sz' nl n xs cap =>
    match boundsV n (capOr cap n) lo hi mx with
    | some (l, h, m) => if sz == sz' && decide (h ≤ n) then some (.lst sz nl (h - l) ((xs.take (h * sz)).drop (l * sz)) (newCapV mx cap (m - l))) else none
    | none => none
  | .sl b o sz' n cap =>
    match boundsV n (capOr cap n) lo hi mx with
    | some (l, h, m) =>
      if sz == sz' then
        match mx, cap with
        | none, none => if decide (l < n) then some (.sl b (o + l * sz) sz (h - l) none) else if decide (l = 0) then some (.sl b o sz (h - l) none) else some (emptyV ik sz)
        | _, _ => some (.sl b (if m = l then o else o + l * sz) sz (h - l) (some (m - l)))
      else none
    | none => none
  | _ => none

/-- Force the lists within, too. -/
noncomputable def forceA (v : V) (k : V → R) : R :=
  match v with
  | .ints kd nl zs c => forceL zs fun zs => optK (some c) fun c => k (.ints kd nl zs c)
  | .lst sz nl n xs c => forceL xs fun xs => forceN n fun n => k (.lst sz nl n xs c)
  | .agg xs => forceL xs fun xs => k (.agg xs)
  | .str l => forceL l fun l => k (.str l)
  | v => forceV v k
noncomputable def ofOptA (o : Option V) (k : V → R) : R := optK o (fun v => forceA v k)

noncomputable def entK (h : HF) (m : V) (k : List (V × V) → R) : R :=
  match m with
  | .map b => nthK h.maps b k
  | .nilmap => k []
  | _ => none
noncomputable def msetK (h : HF) (kt : KT) (m a x : V) (k : HF → R) : R :=
  match m with
  | .map b => HF.rec (fun t n clk maps => nthK maps b fun l => condB (keyOk kt a) (optK (mputL kt l a x) fun l => forceL l fun l => setK maps l b fun maps => k ⟨t, n, clk, maps⟩) none) h
  | _ => none
noncomputable def mgetK (h : HF) (kt : KT) (zero : V) (ok : Bool) (m a : V) (k : V → R) : R :=
  entK h m fun l => condB (keyOk kt a) (match mfind kt a l 0 with
    | some (some p) => forceV (if ok then .tup [p.2, .bool true] else p.2) k
    | some none => k (if ok then .tup [zero, .bool false] else zero)
    | none => none) none

noncomputable def callK (call : Call) (x : V) (args : List V) (h : HF) (k : KC) : R :=
  match x with
  | .func f fst cap => forceL (fst ++ args ++ cap) fun l => call f l h k
  | _ => none

noncomputable def ioC (d n : Nat) : I → Io d
  | .mv x => match evC d n x with
    | ⟨gx⟩ => ⟨fun _ e h k => gx e fun v => k v h⟩
  | .same x => match evC d n x with
    | ⟨gx⟩ => ⟨fun _ e h k => gx e fun v => match v with | .str l => k (.str l) h | _ => none⟩
  | .nilchk x => match evC d n x with
    | ⟨gx⟩ => ⟨fun _ e h k => gx e fun v => match v with
    | .ptr b o => k (.ptr b o) h
    | .pint kd zs i => k (.pint kd zs i) h
    | .plst xs i => k (.plst xs i) h
    | .func f a b => k (.func f a b) h
    | _ => none⟩
  | .pick c a b => match evC d n c, evC d n a, evC d n b with
    | ⟨gc⟩, ⟨ga⟩, ⟨gb⟩ => ⟨fun _ e h k => gc e fun t => condK t (ga e fun v => k v h) (gb e fun v => k v h)⟩
  | .box x => match evC d n x with
    | ⟨gx⟩ => ⟨fun _ e h k => gx e fun v => optK v.cells fun l => h.new (.cs l) fun i h => k (.ptr i 0) h⟩
  | .alloc zs int => ⟨fun _ e h k => optK (mkRow int zs) fun r => forceRC r fun r => h.new r fun i h => k (.ptr i 0) h⟩
  | .build zs parts => ⟨fun _ e h k => (fillC d n parts).f e zs fun l => k (.agg l) h⟩
  | .bslice sz m zs int parts => ⟨fun _ e h k => (fillC d n parts).f e zs fun l => optK (mkRow int l) fun r => forceRC r fun r => h.new r fun i h => k (.sl i 0 sz m (some m)) h⟩
  | .load agg m a => match evC d n a with
    | ⟨ga⟩ => ⟨fun _ e h k => ga e fun a => loadK h agg m a fun v => k v h⟩
  | .store m a x => match evC d n a, evC d n x with
    | ⟨ga⟩, ⟨gx⟩ => ⟨fun _ e h k => ga e fun a => gx e fun x => storeK h m a x fun h => k (.tup []) h⟩
  | .faddr off a => match evC d n a with
    | ⟨ga⟩ => ⟨fun _ e h k => ga e fun a => ofOpt (moveP off a) fun v => k v h⟩
  | .field agg off m x => match evC d n x with
    | ⟨gx⟩ => ⟨fun _ e h k => gx e fun x => match x with
    | .agg xs => ofOptA (cellsAt agg xs off m) fun v => k v h
    | _ => none⟩
  | .iaddrS sz x i => match evC d n x, evC d n i with
    | ⟨gx⟩, ⟨gi⟩ => ⟨fun _ e h k => gx e fun x => gi e fun i => ofOpt (elemAddr sz x i) fun v => k v h⟩
  | .iaddrA len sz x i => match evC d n x, evC d n i with
    | ⟨gx⟩, ⟨gi⟩ => ⟨fun _ e h k => gx e fun x => gi e fun i => onInt i fun _ i =>
      condB (decide (0 ≤ i) && decide (i < len)) (ofOpt (moveP (i.toNat * sz) x) fun v => k v h) none⟩
  | .idxS x i => match evC d n x, evC d n i with
    | ⟨gx⟩, ⟨gi⟩ => ⟨fun _ e h k => gx e fun x => gi e fun i => match x with
    | .str l => onInt i fun _ i => condB (decide (0 ≤ i)) (nthK l i.toNat fun c => k (.int .u8 (Int.ofNat c)) h) none
    | _ => none⟩
  | .idxA agg len sz x i => match evC d n x, evC d n i with
    | ⟨gx⟩, ⟨gi⟩ => ⟨fun _ e h k => gx e fun x => gi e fun i => match x with
    | .agg xs => onInt i fun _ i => condB (decide (0 ≤ i) && decide (i < len)) (ofOptA (cellsAt agg xs (i.toNat * sz) sz) fun v => k v h) none
    | _ => none⟩
  | .slS x lo hi => match evC d n x with
    | ⟨gx⟩ => ⟨fun _ e h k => gx e fun x => optG d n lo e fun lo => optG d n hi e fun hi => match x with
    | .str l => optK (boundsV l.length l.length lo hi none) fun p => forceL ((l.take p.2.1).drop p.1) fun l => k (.str l) h
    | _ => none⟩
  | .slL ik sz x lo hi mx => match evC d n x with
    | ⟨gx⟩ => ⟨fun _ e h k => gx e fun x => optG d n lo e fun lo => optG d n hi e fun hi => optG d n mx e fun mx => ofOptA (sliceVV ik sz x lo hi mx) fun v => k v h⟩
  | .mksl sz bytes zs int l c => match evC d n l, evC d n c with
    | ⟨gl⟩, ⟨gc⟩ => ⟨fun _ e h k => gl e fun l => gc e fun c => onInt l fun _ n => onInt c fun _ m =>
      condB (decide (0 ≤ n) && decide (n ≤ m) && decide (m * bytes ≤ 140737488355328) && decide (m ≤ 140737488355328))
        (forceRC (zeroRow int zs m.toNat) fun r => h.new r fun i h => forceN n.toNat fun a => forceN m.toNat fun b => k (.sl i 0 sz a (some b)) h) none⟩
  | .bin op ty x y => match evC d n x, evC d n y, binC op ty with
    | ⟨gx⟩, ⟨gy⟩, ⟨f⟩ => ⟨fun _ e h k => gx e fun x => gy e fun y => f x y fun v => k v h⟩
  | .un op x => match evC d n x with
    | ⟨gx⟩ => ⟨fun _ e h k => gx e fun x => ofOpt (unV op x) fun v => k v h⟩
  | .toInt kd x => match evC d n x with
    | ⟨gx⟩ => ⟨fun _ e h k => gx e fun x => onInt x fun _ z => forceZ (kd.wrap z) fun z => k (.int kd z) h⟩
  | .toFlt kd x => match evC d n x with
    | ⟨gx⟩ => ⟨fun _ e h k => gx e fun x => onInt x fun _ z => forceN (kd.nearest z) fun z => k (.flt kd z) h⟩
  | .s2b x => match evC d n x with
    | ⟨gx⟩ => ⟨fun _ e h k => gx e fun x => match x with
    | .str l => condB (decide (l.length ≤ 140737488355328)) (forceRC (.is .u8 (l.map Int.ofNat)) fun r => h.new r fun i h => forceN l.length fun n => k (.sl i 0 1 n none) h) none
    | _ => none⟩
  | .b2s x => match evC d n x with
    | ⟨gx⟩ => ⟨fun _ e h k => gx e fun x => elemsK h 1 x fun rc => match rc with
    | .is .u8 zs => optK (lenV x) fun n => condB (zs.length == n) (forceL (zs.map fun z => z.toNat % 256) fun l => k (.str l) h) none
    | _ => none⟩
  | .lenS x => match evC d n x with
    | ⟨gx⟩ => ⟨fun _ e h k => gx e fun x => match x with
    | .str l => forceN l.length fun n => k (.int .i64 (Int.ofNat n)) h
    | _ => none⟩
  | .len x => match evC d n x with
    | ⟨gx⟩ => ⟨fun _ e h k => gx e fun x => match x with
    | .sl _ _ _ n _ => k (.int .i64 (Int.ofNat n)) h
    | .ints _ _ zs _ => forceN zs.length fun n => k (.int .i64 (Int.ofNat n)) h
    | .lst _ _ n _ _ => k (.int .i64 (Int.ofNat n)) h
    | _ => none⟩
  | .cap x => match evC d n x with
    | ⟨gx⟩ => ⟨fun _ e h k => gx e fun x => match x with
    | .sl _ _ _ _ (some c) | .ints _ _ _ (some c) | .lst _ _ _ _ (some c) => k (.int .i64 (Int.ofNat c)) h
    | _ => none⟩
  | .min xs => ⟨fun _ e h k => (evsG d n xs).g e fun l => match l with
    | x :: r => ofOpt (foldMin true x r) fun v => k v h
    | [] => none⟩
  | .max xs => ⟨fun _ e h k => (evsG d n xs).g e fun l => match l with
    | x :: r => ofOpt (foldMin false x r) fun v => k v h
    | [] => none⟩
  | .append sz bytes x y => match evC d n x, evC d n y with
    | ⟨gx⟩, ⟨gy⟩ => ⟨fun _ e h k => gx e fun x => gy e fun y => appendK h sz bytes x y k⟩
  | .copy sz x y => match evC d n x, evC d n y with
    | ⟨gx⟩, ⟨gy⟩ => ⟨fun _ e h k => gx e fun x => gy e fun y => copyK h sz x y k⟩
  | .ext i x => match evC d n x with
    | ⟨gx⟩ => ⟨fun _ e h k => gx e fun x => match x with
    | .tup xs => nthK xs i fun v => k v h
    | _ => none⟩
  | .mkf f fst cap => ⟨fun _ e h k => (evsG d n fst).g e fun a => (evsG d n cap).g e fun b => k (.func f a b) h⟩
  | .mkmap => ⟨fun _ e h k => HF.rec (fun t m clk maps => forceN maps.length fun i => forceL (maps ++ [[]]) fun maps => k (.map i) ⟨t, m, clk, maps⟩) h⟩
  | .mset kt m a x => match evC d n m, evC d n a, evC d n x with
    | ⟨gm⟩, ⟨ga⟩, ⟨gx⟩ => ⟨fun _ e h k => gm e fun m => ga e fun a => gx e fun x => msetK h kt m a x fun h => k (.tup []) h⟩
  | .mget kt z ok m a => match evC d n m, evC d n a with
    | ⟨gm⟩, ⟨ga⟩ => ⟨fun _ e h k => gm e fun m => ga e fun a => mgetK h kt z ok m a fun v => k v h⟩
  | .mlen x => match evC d n x with
    | ⟨gx⟩ => ⟨fun _ e h k => gx e fun x => entK h x fun l => forceN l.length fun n => k (.int .i64 (Int.ofNat n)) h⟩
  | .call f args => ⟨fun call e h k => (evsG d n args).g e fun l => call f l h k⟩
  | .callv x args => match evC d n x with
    | ⟨gx⟩ => ⟨fun call e h k => gx e fun x => (evsG d n args).g e fun l => callK call x l h k⟩
  | .bad => ⟨fun _ _ _ _ => none⟩

/-- Where a value goes. -/
noncomputable def putC (d n : Nat) : Option Nat → S V d
  | none => ⟨fun _ e k => k e⟩
  | some i => if i < n then setC V d i else ⟨fun _ e k => k e⟩

noncomputable def osC (d n : Nat) : List Op → Os d
  | [] => ⟨fun _ e h k => k e h⟩
  | ⟨dst, i, g⟩ :: r => match ioC d n i, putC d n dst, osC d n r with
    | ⟨f⟩, ⟨s⟩, ⟨nx⟩ => match g with
      | none => ⟨fun call e h k => f call e h fun v h => s v e fun e => nx call e h k⟩
      | some (g, w) => match evC d n (.t g) with
        | ⟨gt⟩ => ⟨fun call e h k => gt e fun t => askK t w (f call e h fun v h => s v e fun e => nx call e h k) (s (.tup []) e fun e => nx call e h k)⟩

noncomputable def verK (h : HF) (a : V) (k : Option Nat → R) : R :=
  match a with
  | .ptr b _ => Bool.rec (k none) ((getC Row 5 b).g h.t fun r => Bool.rec (k (some r.ver)) (k none) r.dead) (Nat.blt b h.n)
  | _ => k none
noncomputable def fineK (h : HF) (watch : List Nat) : Seen → R → R
  | [], k => k
  | (i, a, v) :: r, k => condB (watch.contains i)
      (verK h a fun u => condB (match a, v, u with | .ptr .., some x, some y => x == y | .ptr .., _, _ => false | _, _, _ => true) (fineK h watch r k) none)
      (fineK h watch r k)
noncomputable def readsC (d n : Nat) (no : Nat) : I → (ET V d → HF → Seen → (Seen → R) → R)
  | .load _ _ a => fun e h s k => (evC d n a).g e fun a => verK h a fun v => optK (some v) fun v => k ((no, a, v) :: s)
  | _ => fun _ _ s k => k s
noncomputable def osdC (d n : Nat) : List OpD → OsD d
  | [] => ⟨fun _ _ e h k => k e h⟩
  | ⟨no, ⟨dst, i, none⟩, watch⟩ :: r => ⟨fun call s e h k => (ioC d n i).f call e h fun v h' => fineK h' watch s (readsC d n no i e h s fun s => (putC d n dst).s v e fun e => (osdC d n r).f call s e h' k)⟩
  | ⟨no, ⟨dst, i, some (g, w)⟩, watch⟩ :: r => ⟨fun call s e h k => (evC d n (.t g)).g e fun t => askK t w
      ((ioC d n i).f call e h fun v h' => fineK h' watch s (readsC d n no i e h s fun s => (putC d n dst).s v e fun e => (osdC d n r).f call s e h' k))
      ((putC d n dst).s (.tup []) e fun e => (osdC d n r).f call s e h k)⟩

noncomputable def loopF (d : Nat) (c : Cd d) (m : Nat) : Call → ET V d → HF → (ET V d → HF → R) → (X → ET V d → HF → R) → R :=
  Nat.rec (fun _ _ _ _ _ => none) (fun _ ih call e h k kx => c.f call e h (fun e h => ih call e h k kx) kx) m

noncomputable def forgetC (d n : Nat) : List Nat → S V d
  | [] => ⟨fun _ e k => k e⟩
  | i :: r => ⟨fun v e k => (putC d n (some i)).s .undef e fun e => (forgetC d n r).s v e k⟩

/-- So many rounds a loop may take. -/
def rounds : Nat := 1000000

noncomputable def cdC (d n : Nat) : C → Cd d
  | .skip => ⟨fun _ e h k _ => k e h⟩
  | .ret => ⟨fun _ e h _ kx => kx .ret e h⟩
  | .bad => ⟨fun _ _ _ _ _ => none⟩
  | .exit id => ⟨fun _ e h _ kx => kx (.exit id) e h⟩
  | .reg ops => match osC d n ops with
    | ⟨f⟩ => ⟨fun call e h k _ => f call e h k⟩
  | .regd ops => ⟨fun call e h k _ => (osdC d n ops).f call [] e h k⟩
  | .seq a b => match cdC d n a, cdC d n b with
    | ⟨fa⟩, ⟨fb⟩ => ⟨fun call e h k kx => fa call e h (fun e h => fb call e h k kx) kx⟩
  | .cond o a b => match evC d n o, cdC d n a, cdC d n b with
    | ⟨g⟩, ⟨fa⟩, ⟨fb⟩ => ⟨fun call e h k kx => g e fun v => condK v (fa call e h k kx) (fb call e h k kx)⟩
  | .block id c => match cdC d n c with
    | ⟨f⟩ => ⟨fun call e h k kx => f call e h k fun x e h => X.rec none (fun j => condB (Nat.beq j id) (k e h) (kx (.exit j) e h)) (kx .ret e h) x⟩
  | .loop c => ⟨fun call e h k kx => loopF d (cdC d n c) rounds call e h k kx⟩
  | .forget l c => ⟨fun call e h k kx => (forgetC d n l).s .undef e fun e => (cdC d n c).f call e h k kx⟩

noncomputable def resC (d n : Nat) : List Res → (ET V d → HF → (List V → R) → R)
  | [] => fun _ _ k => k []
  | .t i :: r => fun e h k => (evC d n (.t i)).g e fun v => resC d n r e h fun l => k (v :: l)
  | .cell a agg m :: r => fun e h k => (evC d n (.t a)).g e fun a => loadK h agg m a fun v => resC d n r e h fun l => k (v :: l)
structure Rs (d : Nat) where
  f : ET V d → HF → (List V → R) → R
noncomputable def rsC (d n : Nat) (l : List Res) : Rs d := ⟨resC d n l⟩

noncomputable def initC (d n : Nat) : Nat → List V → ET V d → (ET V d → R) → R
  | _, [], e, k => k e
  | i, v :: r, e, k => condB (Nat.blt i n) ((putC d n (some i)).s v e fun e => initC d n (i + 1) r e k) none

structure FnW where
  f : Call → List V → HF → KC → R
def depth (n : Nat) : Nat := if n ≤ 8 then 1 else if n ≤ 64 then 2 else if n ≤ 512 then 3 else 4
noncomputable def fnC (fn : Fn) : FnW :=
  if fn.ntmps ≤ 4096 then ⟨fun call args h k => initC (depth fn.ntmps) fn.ntmps 0 args (ET.all .undef (depth fn.ntmps)) fun e => (cdC (depth fn.ntmps) fn.ntmps fn.body).f call e h
      (fun e h => (rsC (depth fn.ntmps) fn.ntmps fn.res).f e h fun l => k (oneOrTup l) h)
      (fun x e h => X.rec none (fun _ => none) ((rsC (depth fn.ntmps) fn.ntmps fn.res).f e h fun l => k (oneOrTup l) h) x)⟩ else ⟨fun _ _ _ _ => none⟩
noncomputable def fnE (F : Option Fn) : FnW :=
  match F with
  | some fn => fnC fn
  | none => ⟨fun _ _ _ _ => none⟩
noncomputable def elseK {α : Type} (o : Option α) : (α → R) → R → R := Option.rec (fun _ d => d) (fun v k _ => k v) o
noncomputable def fnT (T : Tab) (f : FuncId) : FnW :=
  match T.K f with
  | some F => ⟨fun _ args h k => condB (allData args) (ofOptA (F args) fun v => k v h) none⟩
  | none => match T.J f with
    | none => fnE (T.F f)
    | some F => match fnE (T.F f) with
      | ⟨g⟩ => ⟨fun call args h k => condB (allData args) (elseK (F args) (fun v => forceA v fun v => k v h) (g call args h k)) (g call args h k)⟩
noncomputable def callN (T : Tab) (n : Nat) : Call :=
  Nat.rec (fun _ _ _ _ => none) (fun _ ih f args h k => (fnT T f).f ih args h k) n

noncomputable def freezeK (h : HF) : Nat → V → (V → R) → R
  | 0, _, _ => none
  | m + 1, v, k => match v with
    | .sl b o sz len cap => h.row b fun r => match r.c with
        | .is kd zs => condB (sz == 1 && decide (o + len ≤ zs.length)) (forceL ((zs.drop o).take len) fun zs => k (.ints kd false zs cap)) none
        | .cs xs => condB (decide (o + len * sz ≤ xs.length)) (fzL (freezeK h m) ((xs.drop o).take (len * sz)) fun l => k (.lst sz false len l cap)) none
    | .agg xs => fzL (freezeK h m) xs fun l => k (.agg l)
    | .tup xs => fzL (freezeK h m) xs fun l => k (.tup l)
    | v => condB v.isData (k v) none
 where fzL (f : V → (V → R) → R) : List V → (List V → R) → R
  | [], k => k []
  | x :: r, k => f x fun x => fzL f r fun r => k (x :: r)

/-- A function called with data. -/
noncomputable def runK (T : Tab) (n : Nat) (fn : Fn) (args : List V) : R :=
  (fnC fn).f (callN T n) args .empty fun v h => freezeK h 9 v some

end Go.AM.F

