/- The abstract machine: a deterministic evaluator over the code of a loaded program: values whose slices are either data (never written again) or rows of a small heap of its own. No theorem on the model stands here. -/
import GoSem.Step
namespace Go.AM

/-- A value of the abstract machine. 'undef' stands for any value. -/
inductive V where
  | undef
  | bool (b : Bool)
  | int (k : IntKind) (n : Int)
  | flt (k : FloatKind) (bits : Nat)
  | str (l : List Nat)
  | ptr (b o : Nat)
  | pint (k : IntKind) (zs : List Int) (i : Nat)
  | plst (xs : List V) (i : Nat)
  | nilp
  | sl (b o sz len : Nat) (cap : Option Nat)
  | ints (k : IntKind) (nl : Bool) (zs : List Int) (cap : Option Nat)
  | lst (sz : Nat) (nl : Bool) (n : Nat) (xs : List V) (cap : Option Nat)
  | func (f : FuncId) (fst cap : List V)
  | nilf
  | agg (xs : List V)
  | tup (xs : List V)
  | map (b : Nat)
  | nilmap
  deriving Inhabited

/-- May a cell hold it? -/
def V.isCell : V → Bool
  | .undef | .agg _ | .tup _ => false
  | _ => true

/-- Does it hold no address of the heap? -/
def V.isData : V → Bool
  | .bool _ | .int .. | .flt .. | .str _ | .pint .. | .nilp | .ints .. | .nilf | .nilmap => true
  | .agg xs | .lst _ _ _ xs _ | .plst xs _ => go xs
  | _ => false
 where go : List V → Bool
  | [] => true
  | x :: r => x.isData && go r

inductive RC where
  | is (k : IntKind) (zs : List Int)
  | cs (xs : List V)
  deriving Inhabited

structure Row where
  c : RC
  ver : Nat
  dead : Bool
  deriving Inhabited

structure H where
  rows : List Row
  clk : Nat
  maps : List (List (V × V))

def H.empty : H := ⟨[], 0, []⟩

def RC.size : RC → Nat
  | .is _ zs => zs.length
  | .cs xs => xs.length

def RC.get : RC → Nat → Option V
  | .is k zs, i => if decide (i < zs.length) then some (.int k (zs.getD i 0)) else none
  | .cs xs, i => xs[i]?

def RC.set : RC → Nat → V → Option RC
  | .is k zs, i, .int k' n => if k == k' && decide (i < zs.length) then some (.is k (zs.set i n)) else none
  | .is .., _, _ => none
  | .cs xs, i, v => if decide (i < xs.length) && v.isCell then some (.cs (xs.set i v)) else none

def RC.getN (r : RC) (i : Nat) : Nat → Option (List V)
  | 0 => some []
  | n + 1 => match r.get i with
    | some v => match r.getN (i + 1) n with
      | some l => some (v :: l)
      | none => none
    | none => none

def RC.setN (r : RC) (i : Nat) : List V → Option RC
  | [] => some r
  | v :: l => match r.set i v with
    | some r => r.setN (i + 1) l
    | none => none

def H.row (h : H) (b : Nat) : Option Row :=
  match h.rows[b]? with
  | some r => if r.dead then none else some r
  | none => none

def H.put (h : H) (b : Nat) (c : RC) : H := ⟨h.rows.set b ⟨c, h.clk, false⟩, h.clk + 1, h.maps⟩
def H.kill (h : H) (b : Nat) : H := ⟨h.rows.set b ⟨.cs [], h.clk, true⟩, h.clk + 1, h.maps⟩
def H.new (h : H) (c : RC) : H := ⟨h.rows ++ [⟨c, h.clk, false⟩], h.clk + 1, h.maps⟩
def H.next (h : H) : Nat := h.rows.length

/-- The cells of a value that is laid into a new variable. -/
def V.cells : V → Option (List V)
  | .agg xs => if xs.all V.isCell then some xs else none
  | v => if v.isCell then some [v] else none

/-- Operands. -/
inductive O where
  | t (i : Nat)
  | c (v : V)
  deriving Inhabited

/-- What kind of comparison '==' is. -/
inductive Ty where
  | scalar | bool | ptr | slice | func | other
  deriving DecidableEq, Inhabited

/-- Kinds of keys. -/
inductive KT where
  | int | str | bool
  deriving DecidableEq, Inhabited

inductive I where
  | mv (x : O)
  | nilchk (x : O)
  | pick (c a b : O)
  | box (x : O)
  | alloc (zs : List V) (int : Option IntKind)
  | build (zs : List V) (parts : List (Nat × Nat × O))
  | bslice (sz n : Nat) (zs : List V) (int : Option IntKind) (parts : List (Nat × Nat × O))
  | load (agg : Bool) (n : Nat) (a : O)
  | store (n : Nat) (a x : O)
  | faddr (off : Nat) (a : O)
  | field (agg : Bool) (off n : Nat) (x : O)
  | iaddrS (sz : Nat) (x i : O)
  | iaddrA (len sz : Nat) (x i : O)
  | idxS (x i : O)
  | idxA (agg : Bool) (len sz : Nat) (x i : O)
  | slS (x : O) (lo hi : Option O)
  | slL (ik : Option IntKind) (sz : Nat) (x : O) (lo hi mx : Option O)
  | mksl (sz bytes : Nat) (zs : List V) (int : Option IntKind) (l c : O)
  | bin (op : BinOp) (ty : Ty) (x y : O)
  | un (op : UnOp) (x : O)
  | toInt (k : IntKind) (x : O)
  | toFlt (k : FloatKind) (x : O)
  | same (x : O)
  | s2b (x : O)
  | b2s (x : O)
  | lenS (x : O)
  | len (x : O)
  | cap (x : O)
  | min (xs : List O)
  | max (xs : List O)
  | append (sz bytes : Nat) (x y : O)
  | copy (sz : Nat) (x y : O)
  | ext (i : Nat) (x : O)
  | call (f : FuncId) (args : List O)
  | callv (x : O) (args : List O)
  | mkf (f : FuncId) (fst cap : List O)
  | mkmap
  | mset (kt : KT) (m k x : O)
  | mget (kt : KT) (zero : V) (ok : Bool) (m k : O)
  | mlen (x : O)
  | bad
  deriving Inhabited

/-- An operation: where it writes, what it does, whether it is asked for (a slot and the truth that it must hold). -/
structure Op where
  dst : Option Nat
  i : I
  guard : Option (Nat × Bool)
  deriving Inhabited

/-- An operation of a region that draws: its number, and those ahead of it whose reading must be the same behind it. -/
structure OpD where
  no : Nat
  op : Op
  watch : List Nat
  deriving Inhabited

inductive C where
  | skip
  | reg (ops : List Op)
  | regd (ops : List OpD)
  | seq (a b : C)
  | cond (c : O) (thn els : C)
  | block (id : Nat) (c : C)
  | loop (c : C)
  | exit (id : Nat)
  | ret
  | bad
  | forget (l : List Nat) (c : C)
  deriving Inhabited

inductive Res where
  | t (i : Nat)
  | cell (a : Nat) (agg : Bool) (n : Nat)
  deriving Inhabited

structure Fn where
  ntmps : Nat
  res : List Res
  body : C
  deriving Inhabited

inductive X where
  | normal
  | exit (id : Nat)
  | ret
  deriving Inhabited

abbrev Env := List V

def Env.get : Env → Nat → V
  | [], _ => .undef
  | v :: _, 0 => v
  | _ :: e, n + 1 => Env.get e n

def Env.set : Env → Nat → V → Env
  | [], _, _ => []
  | _ :: e, 0, v => v :: e
  | w :: e, n + 1, v => w :: Env.set e n v

def Env.put (e : Env) : Option Nat → V → Env
  | some d, v => e.set d v
  | none, _ => e

def Env.forget (e : Env) : List Nat → Env
  | [] => e
  | i :: l => Env.forget (e.set i .undef) l

def ev (e : Env) : O → V
  | .t i => e.get i
  | .c v => v

/-! Operations. -/

def intBits (op : BinOp) (k : IntKind) (x y : Int) : Option V :=
  let a := BitVec.ofInt k.bits x
  let b := BitVec.ofInt k.bits y
  match op with
  | .and => some (.int k (k.wrap (a &&& b).toNat))
  | .or => some (.int k (k.wrap (a ||| b).toNat))
  | .xor => some (.int k (k.wrap (a ^^^ b).toNat))
  | .andNot => some (.int k (k.wrap (a &&& ~~~b).toNat))
  | _ => none

def intBin (op : BinOp) (k : IntKind) (a b : Int) : Option V :=
  match op with
  | .add => some (.int k (k.wrap (a + b)))
  | .sub => some (.int k (k.wrap (a - b)))
  | .mul => some (.int k (k.wrap (a * b)))
  | .quo => if decide (b = 0) then none else some (.int k (k.wrap (a.tdiv b)))
  | .rem => if decide (b = 0) then none else some (.int k (a.tmod b))
  | .eql => some (.bool (a == b))
  | .neq => some (.bool (a != b))
  | .lss => some (.bool (decide (a < b)))
  | .leq => some (.bool (decide (a ≤ b)))
  | .gtr => some (.bool (decide (a > b)))
  | .geq => some (.bool (decide (a ≥ b)))
  | op => intBits op k a b

def bytesLess : List Nat → List Nat → Bool
  | _, [] => false
  | [], _ :: _ => true
  | a :: x, b :: y => decide (a < b) || (a == b && bytesLess x y)

def strBin (op : BinOp) (a b : List Nat) : Option V :=
  match op with
  | .add => if decide (a.length + b.length ≤ 9223372036854775807) then some (.str (a ++ b)) else none
  | .eql => some (.bool (a == b))
  | .neq => some (.bool (!(a == b)))
  | .lss => some (.bool (bytesLess a b))
  | .leq => some (.bool (bytesLess a b || a == b))
  | .gtr => some (.bool (!(bytesLess a b || a == b)))
  | .geq => some (.bool (!bytesLess a b))
  | _ => none

/-- Is a slice nil? -/
def V.isNil : V → Option Bool
  | .sl .. => some false
  | .ints _ nl _ _ => some nl
  | .lst _ nl _ _ _ => some nl
  | _ => none

def binV (op : BinOp) (ty : Ty) (x y : V) : Option V :=
  match op, ty, x, y with
  | .shl, _, .int k a, .int _ b => if decide (b < 0) then none else some (.int k (k.wrap (a * 2 ^ (Nat.min b.toNat k.bits))))
  | .shr, _, .int k a, .int _ b => if decide (b < 0) then none else some (.int k (a.fdiv (2 ^ (Nat.min b.toNat k.bits))))
  | op, _, .int k a, .int k' b => if k == k' then intBin op k a b else none
  | op, _, .str a, .str b => strBin op a b
  | .eql, .bool, .bool a, .bool b => some (.bool (a == b))
  | .neq, .bool, .bool a, .bool b => some (.bool (!(a == b)))
  | .eql, .slice, x, .lst _ true _ _ _ => match x.isNil with | some b => some (.bool b) | none => none
  | .neq, .slice, x, .lst _ true _ _ _ => match x.isNil with | some b => some (.bool (!b)) | none => none
  | .eql, .slice, x, .ints _ true _ _ => match x.isNil with | some b => some (.bool b) | none => none
  | .neq, .slice, x, .ints _ true _ _ => match x.isNil with | some b => some (.bool (!b)) | none => none
  | .eql, .ptr, .nilp, .nilp => some (.bool true)
  | .eql, .ptr, .ptr .., .nilp => some (.bool false)
  | .neq, .ptr, .nilp, .nilp => some (.bool false)
  | .neq, .ptr, .ptr .., .nilp => some (.bool true)
  | _, _, _, _ => none

def unV (op : UnOp) (x : V) : Option V :=
  match op, x with
  | .neg, .int k n => some (.int k (k.wrap (0 - n)))
  | .xor, .int k n => intBits .xor k (if k.signed then -1 else k.max) n
  | .not, .bool b => some (.bool (!b))
  | _, _ => none

def asNat (x : V) (y : Nat) : Option Nat :=
  match x with
  | .int _ i => if decide (0 ≤ i) && decide (i ≤ y) then some i.toNat else none
  | _ => none

/-- The bounds of a slice expression: low, high, max. -/
def bounds (e : Env) (len cap : Nat) (lo hi mx : Option O) : Option (Nat × Nat × Nat) :=
  match (match mx with | some v => asNat (ev e v) cap | none => some cap) with
  | none => none
  | some m =>
    match (match hi with | some v => asNat (ev e v) m | none => match mx with | none => some len | some _ => none) with
    | none => none
    | some h =>
      match (match lo with | some v => asNat (ev e v) h | none => some 0) with
      | none => none
      | some l => some (l, h, m)

/-- The elements of what is appended or copied: a slice of ints or of others, a string. -/
def elems (h : H) (sz : Nat) : V → Option RC
  | .ints k _ zs _ => if sz == 1 then some (.is k zs) else none
  | .lst sz' _ _ xs _ => if sz == sz' then some (.cs xs) else none
  | .str l => if sz == 1 then some (.is .u8 (l.map Int.ofNat)) else none
  | .sl b o sz' len _ => if sz == sz' then
      match h.row b with
      | some r => match r.c with
        | .is k zs => if decide (o + len * sz ≤ zs.length) then some (.is k ((zs.drop o).take (len * sz))) else none
        | .cs xs => if decide (o + len * sz ≤ xs.length) then some (.cs ((xs.drop o).take (len * sz))) else none
      | none => none
    else none
  | _ => none

def RC.app : RC → RC → Option RC
  | .is k zs, .is k' ys => if k == k' then some (.is k (zs ++ ys)) else none
  | .cs xs, .cs ys => some (.cs (xs ++ ys))
  | _, _ => none

def RC.take (n : Nat) : RC → RC
  | .is k zs => .is k (zs.take n)
  | .cs xs => .cs (xs.take n)

/-- A row written over from a place on. -/
def RC.over (r : RC) (o : Nat) (s : RC) : Option RC :=
  match r, s with
  | .is k zs, .is k' ys => if k == k' && decide (o + ys.length ≤ zs.length) then some (.is k (zs.take o ++ ys ++ zs.drop (o + ys.length))) else none
  | .cs xs, .cs ys => if decide (o + ys.length ≤ xs.length) && ys.all V.isCell then some (.cs (xs.take o ++ ys ++ xs.drop (o + ys.length))) else none
  | _, _ => none

/-- May so many elements lie in memory, behind a growth? -/
def fits (n bytes : Nat) : Bool := decide ((2 * n + 768) * bytes ≤ 140737488355328) && decide (n ≤ 140737488355328)

def lenV : V → Option Nat
  | .sl _ _ _ n _ => some n
  | .ints _ _ zs _ => some zs.length
  | .lst _ _ n _ _ => some n
  | .str l => some l.length
  | _ => none

/-- May cells hold it all? -/
def RC.ok : RC → Bool
  | .is .. => true
  | .cs l => l.all V.isCell

/-- Is a known capacity enough? (of an unknown one the row's own cells are) -/
def capFits : Option Nat → Nat → Bool
  | some c, n => decide (n ≤ c)
  | none, _ => true

/-- Append to a row of the heap. -/
def appRow (h : H) (sz bytes b o m : Nat) (cap : Option Nat) (xs ys : RC) (n : Nat) : Option (V × H) :=
  match h.row b with
  | some q =>
    if decide (o + (m + n) * sz ≤ q.c.size) && capFits cap (m + n) then
      match q.c.over (o + m * sz) ys with
      | some r => some (.sl b o sz (m + n) cap, h.put b r)
      | none => none
    else if fits (m + n) bytes && decide (xs.size = m * sz) then
      match xs.app ys with
      | some r => if r.ok then
          match cap with
          | some c => if decide (c < m + n) then some (.sl h.next 0 sz (m + n) none, h.new r) else none
          | none => if decide (o + m * sz = q.c.size) then some (.sl h.next 0 sz (m + n) none, (h.kill b).new r) else none
        else none
      | none => none
    else none
  | none => none

/-- The capacity of data, if it is known. -/
def V.capOf : V → Option Nat
  | .ints _ _ _ c | .lst _ _ _ _ c => c
  | _ => none

def appendV (h : H) (sz bytes : Nat) (x y : V) : Option (V × H) :=
  match elems h sz y, lenV y, elems h sz x, lenV x with
  | some ys, some n, some xs, some m =>
    if decide (ys.size = n * sz) then
      match x with
      | .sl b o sz' _ cap => if sz == sz' then appRow h sz bytes b o m cap xs ys n else none
      | x => match x.isNil with
        | some true => if n == 0 then some (x, h) else if fits n bytes && ys.ok then some (.sl h.next 0 sz n none, h.new ys) else none
        | some false => match x.capOf with
          | some c => if decide (c < m + n) && fits (m + n) bytes && decide (xs.size = m * sz) then
              match xs.app ys with
              | some r => if r.ok then some (.sl h.next 0 sz (m + n) none, h.new r) else none
              | none => none
            else none
          | none => none
        | none => none
    else none
  | _, _, _, _ => none

def copyV (h : H) (sz : Nat) (x y : V) : Option (V × H) :=
  match lenV x, lenV y, elems h sz y with
  | some m, some n, some ys =>
    let k := Nat.min n m
    match x with
    | .sl b o sz' _ _ =>
      if sz == sz' && decide (ys.size = n * sz) then
        match h.row b with
        | some r => match r.c.over o (ys.take (k * sz)) with
          | some r => some (.int .i64 k, h.put b r)
          | none => none
        | none => none
      else none
    | _ => none
  | _, _, _ => none

/-- Parts laid into zero cells. -/
def fill (e : Env) (zs : List V) : List (Nat × Nat × O) → Option (List V)
  | [] => some zs
  | (off, size, x) :: r =>
    match (ev e x).cells with
    | some cs => if cs.length == size && decide (off + size ≤ zs.length) then fill e (zs.take off ++ cs ++ zs.drop (off + size)) r else none
    | none => none

/-- A row out of cells: of ints, where all are of a kind. -/
def mkRow (int : Option IntKind) (xs : List V) : Option RC :=
  match int with
  | none => some (.cs xs)
  | some k => match go k xs with
    | some zs => some (.is k zs)
    | none => none
 where go (k : IntKind) : List V → Option (List Int)
  | [] => some []
  | .int k' n :: r => if k == k' then match go k r with | some l => some (n :: l) | none => none else none
  | _ :: _ => none

/-- A new row of n zero elements. -/
def zeroRow (int : Option IntKind) (zs : List V) (n : Nat) : RC :=
  match int with
  | some k => .is k (List.replicate n 0)
  | none => .cs ((List.replicate n zs).flatten)

/-- A known capacity, or what is given. -/
def capOr : Option Nat → Nat → Nat
  | some c, _ => c
  | none, n => n

/-- What is known of the capacity of a slice that is cut. -/
def newCap : Option O → Option Nat → Nat → Option Nat
  | none, none, _ => none
  | _, _, n => some n

/-- No element, nobody knows where. -/
def emptyV (ik : Option IntKind) (sz : Nat) : V :=
  match ik with
  | some k => .ints k false [] none
  | none => .lst sz false 0 [] none

def sliceV (ik : Option IntKind) (sz : Nat) (e : Env) (x : V) (lo hi mx : Option O) : Option V :=
  match x with
  | .ints k nl zs cap =>
    match bounds e zs.length (capOr cap zs.length) lo hi mx with
    | some (l, h, m) => if sz == 1 && decide (h ≤ zs.length) then some (.ints k nl ((zs.take h).drop l) (newCap mx cap (m - l))) else none
    | none => none
  | .lst sz' nl n xs cap =>
    match bounds e n (capOr cap n) lo hi mx with
    | some (l, h, m) => if sz == sz' && decide (h ≤ n) then some (.lst sz nl (h - l) ((xs.take (h * sz)).drop (l * sz)) (newCap mx cap (m - l))) else none
    | none => none
  | .sl b o sz' n cap =>
    match bounds e n (capOr cap n) lo hi mx with
    | some (l, h, m) =>
      if sz == sz' then
        match mx, cap with
        | none, none => if decide (l < n) then some (.sl b (o + l * sz) sz (h - l) none) else if decide (l = 0) then some (.sl b o sz (h - l) none) else some (emptyV ik sz)
        | _, _ => some (.sl b (if m = l then o else o + l * sz) sz (h - l) (some (m - l)))
      else none
    | none => none
  | _ => none

def loadV (h : H) (agg : Bool) (n : Nat) (a : V) : Option V :=
  match a with
  | .ptr b o =>
    match h.row b with
    | some r => if agg then match r.c.getN o n with | some l => some (.agg l) | none => none
      else r.c.get o
    | none => none
  | .pint k zs i => if agg then none else if decide (i < zs.length) then some (.int k (zs.getD i 0)) else none
  | .plst xs i => if agg then match (RC.cs xs).getN i n with | some l => some (.agg l) | none => none
      else xs[i]?
  | _ => none

def storeV (h : H) (n : Nat) (a x : V) : Option H :=
  match a with
  | .ptr b o =>
    match h.row b, x.cells with
    | some r, some l => if l.length == n then match r.c.setN o l with | some c => some (h.put b c) | none => none else none
    | _, _ => none
  | _ => none

def moveP (off : Nat) : V → Option V
  | .ptr b o => some (.ptr b (o + off))
  | .pint k zs i => some (.pint k zs (i + off))
  | .plst xs i => some (.plst xs (i + off))
  | _ => none

def elemAddr (sz : Nat) (x i : V) : Option V :=
  match i with
  | .int _ i =>
    match x with
    | .ints k false zs _ => if sz == 1 && decide (0 ≤ i) && decide (i < zs.length) then some (.pint k zs i.toNat) else none
    | .lst sz' false n xs _ => if sz == sz' && decide (0 ≤ i) && decide (i < n) then some (.plst xs (i.toNat * sz)) else none
    | .sl b o sz' n _ => if sz == sz' && decide (0 ≤ i) && decide (i < n) then some (.ptr b (o + i.toNat * sz)) else none
    | _ => none
  | _ => none

def cellsAt (agg : Bool) (xs : List V) (off n : Nat) : Option V :=
  if agg then (if decide (off + n ≤ xs.length) then some (.agg ((xs.drop off).take n)) else none) else xs[off]?

def foldMin (mn : Bool) : V → List V → Option V
  | v, [] => some v
  | .int k x, .int k' y :: r => if k == k' then foldMin mn (.int k (if mn then (if decide (y < x) then y else x) else (if decide (y > x) then y else x))) r else none
  | _, _ => none

def evs (e : Env) : List O → List V
  | [] => []
  | x :: r => ev e x :: evs e r

/-! Maps. -/
def keyEq : KT → V → V → Option Bool
  | .int, .int k a, .int k' b => if k == k' then some (a == b) else none
  | .str, .str a, .str b => some (a == b)
  | .bool, .bool a, .bool b => some (a == b)
  | _, _, _ => none
def keyOk : KT → V → Bool
  | .int, .int .. => true
  | .str, .str _ => true
  | .bool, .bool _ => true
  | _, _ => false
def mfind (kt : KT) (k : V) : List (V × V) → Nat → Option (Option (Nat × V))
  | [], _ => some none
  | p :: r, i => match keyEq kt k p.1 with
    | some true => some (some (i, p.2))
    | some false => mfind kt k r (i + 1)
    | none => none
def H.setMap (h : H) (b : Nat) (l : List (V × V)) : H := ⟨h.rows, h.clk, h.maps.set b l⟩
def H.newMap (h : H) : H := ⟨h.rows, h.clk, h.maps ++ [[]]⟩
/-- A map's entries. -/
def mentries (h : H) : V → Option (List (V × V))
  | .map b => h.maps[b]?
  | .nilmap => some []
  | _ => none
def mputL (kt : KT) (l : List (V × V)) (k x : V) : Option (List (V × V)) :=
  match mfind kt k l 0 with
  | some (some (i, _)) => some (l.set i (k, x))
  | some none => some (l ++ [(k, x)])
  | none => none
def msetV (h : H) (kt : KT) (m k x : V) : Option H :=
  match m with
  | .map b => match h.maps[b]? with
    | some l => if keyOk kt k then match mputL kt l k x with
        | some l => some (h.setMap b l)
        | none => none
      else none
    | none => none
  | _ => none
def mgetV (h : H) (kt : KT) (zero : V) (ok : Bool) (m k : V) : Option V :=
  match mentries h m with
  | some l => if keyOk kt k then match mfind kt k l 0 with
      | some (some (_, x)) => some (if ok then .tup [x, .bool true] else x)
      | some none => some (if ok then .tup [zero, .bool false] else zero)
      | none => none
    else none
  | none => none

/-- Operations that do not call. -/
def iop (e : Env) (h : H) : I → Option (V × H)
  | .mv x => some (ev e x, h)
  | .same x => match ev e x with
    | .str l => some (.str l, h)
    | _ => none
  | .nilchk x => match ev e x with
    | .ptr b o => some (.ptr b o, h)
    | .pint k zs i => some (.pint k zs i, h)
    | .plst xs i => some (.plst xs i, h)
    | .func f a b => some (.func f a b, h)
    | _ => none
  | .pick c a b => match ev e c with
    | .bool t => some (if t then ev e a else ev e b, h)
    | _ => none
  | .box x => match (ev e x).cells with
    | some l => some (.ptr h.next 0, h.new (.cs l))
    | none => none
  | .alloc zs int => match mkRow int zs with
    | some r => some (.ptr h.next 0, h.new r)
    | none => none
  | .build zs parts => match fill e zs parts with
    | some l => some (.agg l, h)
    | none => none
  | .bslice sz n zs int parts => match fill e zs parts with
    | some l => match mkRow int l with
      | some r => some (.sl h.next 0 sz n (some n), h.new r)
      | none => none
    | none => none
  | .load agg n a => match loadV h agg n (ev e a) with
    | some v => some (v, h)
    | none => none
  | .store n a x => match storeV h n (ev e a) (ev e x) with
    | some h => some (.tup [], h)
    | none => none
  | .faddr off a => match moveP off (ev e a) with
    | some v => some (v, h)
    | none => none
  | .field agg off n x => match ev e x with
    | .agg xs => match cellsAt agg xs off n with
      | some v => some (v, h)
      | none => none
    | _ => none
  | .iaddrS sz x i => match elemAddr sz (ev e x) (ev e i) with
    | some v => some (v, h)
    | none => none
  | .iaddrA len sz x i => match ev e i with
    | .int _ i => if decide (0 ≤ i) && decide (i < len) then match moveP (i.toNat * sz) (ev e x) with | some v => some (v, h) | none => none else none
    | _ => none
  | .idxS x i => match ev e x, ev e i with
    | .str l, .int _ i => if decide (0 ≤ i) && decide (i < l.length) then some (.int .u8 (Int.ofNat (l.getD i.toNat 0)), h) else none
    | _, _ => none
  | .idxA agg len sz x i => match ev e x, ev e i with
    | .agg xs, .int _ i => if decide (0 ≤ i) && decide (i < len) then match cellsAt agg xs (i.toNat * sz) sz with | some v => some (v, h) | none => none else none
    | _, _ => none
  | .slS x lo hi => match ev e x with
    | .str l => match bounds e l.length l.length lo hi none with
      | some (a, b, _) => some (.str ((l.take b).drop a), h)
      | none => none
    | _ => none
  | .slL ik sz x lo hi mx => match sliceV ik sz e (ev e x) lo hi mx with
    | some v => some (v, h)
    | none => none
  | .mksl sz bytes zs int l c => match ev e l, ev e c with
    | .int _ n, .int _ m => if decide (0 ≤ n) && decide (n ≤ m) && decide (m * bytes ≤ 140737488355328) && decide (m ≤ 140737488355328) then
        some (.sl h.next 0 sz n.toNat (some m.toNat), h.new (zeroRow int zs m.toNat)) else none
    | _, _ => none
  | .bin op ty x y => match binV op ty (ev e x) (ev e y) with
    | some v => some (v, h)
    | none => none
  | .un op x => match unV op (ev e x) with
    | some v => some (v, h)
    | none => none
  | .toInt k x => match ev e x with
    | .int _ n => some (.int k (k.wrap n), h)
    | _ => none
  | .toFlt k x => match ev e x with
    | .int _ n => some (.flt k (k.nearest n), h)
    | _ => none
  | .s2b x => match ev e x with
    | .str l => if decide (l.length ≤ 140737488355328) then some (.sl h.next 0 1 l.length none, h.new (.is .u8 (l.map Int.ofNat))) else none
    | _ => none
  | .b2s x => match elems h 1 (ev e x) with
    | some (.is .u8 zs) => match lenV (ev e x) with
      | some n => if zs.length == n then some (.str (zs.map fun z => z.toNat % 256), h) else none
      | none => none
    | _ => none
  | .lenS x => match ev e x with
    | .str l => some (.int .i64 l.length, h)
    | _ => none
  | .len x => match ev e x with
    | .sl _ _ _ n _ => some (.int .i64 n, h)
    | .ints _ _ zs _ => some (.int .i64 zs.length, h)
    | .lst _ _ n _ _ => some (.int .i64 n, h)
    | _ => none
  | .cap x => match ev e x with
    | .sl _ _ _ _ (some c) | .ints _ _ _ (some c) | .lst _ _ _ _ (some c) => some (.int .i64 c, h)
    | _ => none
  | .min xs => match evs e xs with
    | x :: r => match foldMin true x r with | some v => some (v, h) | none => none
    | [] => none
  | .max xs => match evs e xs with
    | x :: r => match foldMin false x r with | some v => some (v, h) | none => none
    | [] => none
  | .append sz bytes x y => appendV h sz bytes (ev e x) (ev e y)
  | .copy sz x y => copyV h sz (ev e x) (ev e y)
  | .ext i x => match ev e x with
    | .tup xs => match xs[i]? with
      | some v => some (v, h)
      | none => none
    | _ => none
  | .mkf f fst cap => some (.func f (evs e fst) (evs e cap), h)
  | .mkmap => some (.map h.maps.length, h.newMap)
  | .mset kt m k x => match msetV h kt (ev e m) (ev e k) (ev e x) with
    | some h => some (.tup [], h)
    | none => none
  | .mget kt zero ok m k => match mgetV h kt zero ok (ev e m) (ev e k) with
    | some v => some (v, h)
    | none => none
  | .mlen x => match mentries h (ev e x) with
    | some l => some (.int .i64 l.length, h)
    | none => none
  | .call .. | .callv .. | .bad => none

/-- Is an operation asked for? -/
def asked (e : Env) : Option (Nat × Bool) → Option Bool
  | none => some true
  | some (d, want) => match e.get d with
    | .bool b => some (b == want)
    | .tup _ => some false
    | _ => none

/-- The contracts that are known; those that serve as short cuts, where they answer; the functions that are entered. -/
structure Tab where
  K : FuncId → Option (List V → Option V)
  J : FuncId → Option (List V → Option V)
  F : FuncId → Option Fn

def resV (e : Env) (h : H) : List Res → Option (List V)
  | [] => some []
  | .t i :: r => match resV e h r with
    | some l => some (e.get i :: l)
    | none => none
  | .cell a agg n :: r => match loadV h agg n (e.get a), resV e h r with
    | some v, some l => some (v :: l)
    | _, _ => none

def oneOrTup : List V → V
  | [v] => v
  | l => .tup l

/-- The version of the row behind an address. -/
def verOf (h : H) : V → Option Nat
  | .ptr b _ => match h.row b with
    | some r => some r.ver
    | none => none
  | _ => none

/-- What a load reads from. -/
def I.reads (e : Env) : I → Option V
  | .load _ _ a => some (ev e a)
  | _ => none

/-- All data? -/
def allData : List V → Bool
  | [] => true
  | x :: r => x.isData && allData r

abbrev Exec := C → Env → H → Option (X × Env × H)

/-- A short cut. -/
def short (J : Option (List V → Option V)) (args : List V) : Option V :=
  match J with
  | some F => if allData args then F args else none
  | none => none

def enterF (F : Option Fn) (ih : Exec) (args : List V) (h : H) : Option (V × H) :=
  match F with
  | some fn => match ih fn.body (args ++ List.replicate (fn.ntmps - args.length) .undef) h with
    | some (.normal, e, h) | some (.ret, e, h) => match resV e h fn.res with
      | some l => some (oneOrTup l, h)
      | none => none
    | _ => none
  | none => none

def callF (T : Tab) (ih : Exec) (f : FuncId) (args : List V) (h : H) : Option (V × H) :=
  match T.K f with
  | some F => if allData args then match F args with
      | some v => some (v, h)
      | none => none
    else none
  | none => match short (T.J f) args with
    | some v => some (v, h)
    | none => enterF (T.F f) ih args h

/-- An operation, a call among them. -/
def oper (T : Tab) (ih : Exec) (e : Env) (h : H) : I → Option (V × H)
  | .call f args => callF T ih f (evs e args) h
  | .callv x args => match ev e x with
    | .func f fst cap => callF T ih f (fst ++ evs e args ++ cap) h
    | _ => none
  | i => iop e h i

/-- Operations one behind the other. -/
def opers (T : Tab) (ih : Exec) : List Op → Env → H → Option (Env × H)
  | [], e, h => some (e, h)
  | o :: r, e, h => match asked e o.guard with
    | some true => match oper T ih e h o.i with
      | some (v, h) => opers T ih r (e.put o.dst v) h
      | none => none
    | some false => opers T ih r (e.put o.dst (.tup [])) h
    | none => none

/-- What has been read so far: operation, address, version. -/
abbrev Seen := List (Nat × V × Option Nat)

def Seen.fine (h : H) (watch : List Nat) : Seen → Bool
  | [] => true
  | (i, a, v) :: r => (if watch.contains i then (match a, v, verOf h a with | .ptr .., some x, some y => x == y | .ptr .., _, _ => false | _, _, _ => true) else true) && Seen.fine h watch r

def opersD (T : Tab) (ih : Exec) : List OpD → Seen → Env → H → Option (Env × H)
  | [], _, e, h => some (e, h)
  | o :: r, s, e, h => match asked e o.op.guard with
    | some true => match oper T ih e h o.op.i with
      | some (v, h') =>
        if Seen.fine h' o.watch s then
          opersD T ih r (match o.op.i.reads e with | some a => (o.no, a, verOf h a) :: s | none => s) (e.put o.op.dst v) h'
        else none
      | none => none
    | some false => opersD T ih r s (e.put o.op.dst (.tup [])) h
    | none => none

def exec (T : Tab) : Nat → Exec
  | 0 => fun _ _ _ => none
  | n + 1 => go n (exec T n)
 where go (n : Nat) (ih : Exec) : C → Env → H → Option (X × Env × H)
  | .skip, e, h => some (.normal, e, h)
  | .ret, e, h => some (.ret, e, h)
  | .bad, _, _ => none
  | .exit id, e, h => some (.exit id, e, h)
  | .reg ops, e, h => match opers T ih ops e h with
    | some (e, h) => some (.normal, e, h)
    | none => none
  | .regd ops, e, h => match opersD T ih ops [] e h with
    | some (e, h) => some (.normal, e, h)
    | none => none
  | .seq a b, e, h => match go n ih a e h with
    | some (.normal, e, h) => go n ih b e h
    | r => r
  | .cond o a b, e, h => match ev e o with
    | .bool true => go n ih a e h
    | .bool false => go n ih b e h
    | _ => none
  | .block id c, e, h => match go n ih c e h with
    | some (.exit j, e, h) => if j == id then some (.normal, e, h) else some (.exit j, e, h)
    | r => r
  | .loop c, e, h => match go n ih c e h with
    | some (.normal, e, h) => ih (.loop c) e h
    | r => r
  | .forget l c, e, h => go n ih c (e.forget l) h

def freezeL (f : V → Option V) : List V → Option (List V)
  | [] => some []
  | x :: r => match f x with
    | some x => match freezeL f r with
      | some r => some (x :: r)
      | none => none
    | none => none

/-- Addresses of the heap laid open as data, so deep. -/
def freeze (h : H) : Nat → V → Option V
  | 0, _ => none
  | n + 1, v => match v with
    | .sl b o sz len cap => match h.row b with
      | some r => match r.c with
        | .is k zs => if sz == 1 && decide (o + len ≤ zs.length) then some (.ints k false ((zs.drop o).take len) cap) else none
        | .cs xs => if decide (o + len * sz ≤ xs.length) then match freezeL (freeze h n) ((xs.drop o).take (len * sz)) with | some l => some (.lst sz false len l cap) | none => none else none
      | none => none
    | .agg xs => match freezeL (freeze h n) xs with | some l => some (.agg l) | none => none
    | .tup xs => match freezeL (freeze h n) xs with | some l => some (.tup l) | none => none
    | v => if v.isData then some v else none

/-- A function called with data: its answer as data. -/
def run (T : Tab) (n : Nat) (fn : Fn) (args : List V) : Option V :=
  match exec T n fn.body (args ++ List.replicate (fn.ntmps - args.length) .undef) .empty with
  | some (.normal, e, h) | some (.ret, e, h) => match resV e h fn.res with
    | some l => freeze h 9 (oneOrTup l)
    | none => none
  | _ => none

end Go.AM
