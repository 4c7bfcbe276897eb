/- Code of a loaded program turned into code of the abstract machine. -/
import Derived.Test.YtgfohimonbagmaaGreatDoorAMDefs
namespace Go.AM

/-- What a cell is for: a slice of ints, another slice (its elements' cells), anything else. -/
inductive CT where
  | i (k : IntKind)
  | l (sz : Nat)
  | o

def cellsOf (P : Program) (t : TypeId) : Option Nat := (P.info? t).map (·.size)

def flatL (f : TypeId → Option (List CT)) : List Field → Option (List CT)
  | [] => some []
  | x :: r => match f x.type with
    | some l => match flatL f r with
      | some l' => some (l ++ l')
      | none => none
    | none => none

/-- The cells of a type. -/
def flat (P : Program) : Nat → TypeId → Option (List CT)
  | 0, _ => none
  | d + 1, t => match P.underlying t with
    | some (.struct fs) => flatL (flat P d) fs.toList
    | some (.array n e) => match flat P d e with
      | some l => some (List.replicate n l).flatten
      | none => none
    | some (.slice e) => match P.underlying e with
      | some (.int k) => some [.i k]
      | _ => match P.info? e with
        | some i => some [.l i.size]
        | none => none
    | some _ => some [.o]
    | none => none

/-- A cell's constant. -/
def cV : CT → Value → Option V
  | _, .bool b => some (.bool b)
  | _, .int k n => some (.int k n)
  | _, .float k b => some (.flt k b)
  | _, .string s => some (.str (s.data.toList.map (·.toNat)))
  | _, .pointer none => some .nilp
  | .i k, .slice none 0 0 => some (.ints k true [] (some 0))
  | .l sz, .slice none 0 0 => some (.lst sz true 0 [] (some 0))
  | _, .nilFunc => some .nilf
  | _, .map none => some .nilmap
  | _, _ => none

def cVs : List CT → List Value → Option (List V)
  | [], [] => some []
  | t :: ts, v :: vs => match cV t v with
    | some x => match cVs ts vs with
      | some l => some (x :: l)
      | none => none
    | none => none
  | _, _ => none

/-- A constant of a type. -/
def cC (P : Program) (t : TypeId) (v : Value) : Option V :=
  match v with
  | .bool b => some (.bool b)
  | .int k n => some (.int k n)
  | .float k b => some (.flt k b)
  | .string s => some (.str (s.data.toList.map (·.toNat)))
  | .agg cs => match flat P 50 t with
    | some ts => match cVs ts cs.toList with
      | some l => some (.agg l)
      | none => none
    | none => none
  | v => match flat P 50 t with
    | some [c] => cV c v
    | _ => none

def cO (P : Program) (t : TypeId) : Operand → Option O
  | .tmp i => some (.t i)
  | .const v => match cC P t v with
    | some x => some (.c x)
    | none => none
  | .func f => some (.c (.func f [] []))
  | .global _ => none

def cOs (P : Program) : List TypeId → List Operand → Option (List O)
  | [], [] => some []
  | t :: ts, x :: xs => match cO P t x with
    | some y => match cOs P ts xs with
      | some l => some (y :: l)
      | none => none
    | none => none
  | _, _ => none

/-- Operands whose constants need no type. -/
def cOs0 (P : Program) : List Operand → Option (List O)
  | [] => some []
  | x :: xs => match cO P 0 x with
    | some y => match cOs0 P xs with
      | some l => some (y :: l)
      | none => none
    | none => none

def cOo (P : Program) : Option Operand → Option (Option O)
  | none => some none
  | some x => match cO P 0 x with
    | some y => some (some y)
    | none => none

def isAggT (P : Program) (t : TypeId) : Bool :=
  match P.underlying t with
  | some (.struct _) | some (.array _ _) => true
  | _ => false

def iK (P : Program) (t : TypeId) : Option IntKind :=
  match P.underlying t with
  | some (.int k) => some k
  | _ => none

def zeroL (P : Program) (t : TypeId) : Option (List V) :=
  match P.info? t with
  | some i => match i.zero, flat P 50 t with
    | some z, some ts => match cVs ts z.cells.toList with
      | some l => if l.length == i.size then some l else none
      | none => none
    | _, _ => none
  | none => none

/-- The kind of a cell that is an integer nought. -/
def intOf : List V → Option IntKind
  | [.int k n] => if n == 0 then some k else none
  | _ => none

def cParts (P : Program) (place : Nat → Option (Nat × TypeId × Nat)) : List (Nat × Operand) → Option (List (Nat × Nat × O))
  | [] => some []
  | (i, x) :: r => match place i with
    | some (off, t, size) => match cO P t x with
      | some y => match cParts P place r with
        | some l => some ((off, size, y) :: l)
        | none => none
      | none => none
    | none => none

def fieldPlaceOf (P : Program) (fs : Array Field) (i : Nat) : Option (Nat × TypeId × Nat) :=
  match fs[i]? with
  | some f => match P.info? f.type with
    | some j => some (f.offset, f.type, j.size)
    | none => none
  | none => none

def cBuild (P : Program) (t : TypeId) (parts : List (Nat × Operand)) : Option I :=
  match zeroL P t with
  | some zs => match P.underlying t with
    | some (.struct fs) => if fs.all fun f => (P.info? f.type).isSome then match cParts P (fieldPlaceOf P fs) parts with
        | some l => some (.build zs l)
        | none => none
      else none
    | some (.array _ el) => match P.info? el with
      | some j => match cParts P (fun i => some (i * j.size, el, j.size)) parts with
        | some l => some (.build zs l)
        | none => none
      | none => none
    | _ => none
  | none => none

def cBuildSlice (P : Program) (t : TypeId) (len : Nat) (parts : List (Nat × Operand)) : Option I :=
  match P.underlying t with
  | some (.slice el) => match P.info? el, zeroL P el with
    | some j, some z =>
      if decide (len * j.size ≤ 16777216) && decide (0 < len * j.size) then
        match cParts P (fun i => some (i * j.size, el, j.size)) parts with
        | some l => some (.bslice j.size len (List.replicate len z).flatten (intOf z) l)
        | none => none
      else match len, parts with
        | 0, [] => some (.bslice j.size 0 [] (intOf z) [])
        | _, _ => none
    | _, _ => none
  | _ => none

def cLoad (P : Program) (t : TypeId) (a : Operand) : Option I :=
  match P.info? t, P.underlying t, cO P 0 a with
  | some j, some _, some y => some (.load (isAggT P t) j.size y)
  | _, _, _ => none

def cStore (P : Program) (t : TypeId) (a x : Operand) : Option I :=
  match P.info? t, cO P 0 a, cO P t x with
  | some j, some y, some z => some (.store j.size y z)
  | _, _, _ => none

def cFieldAddr (P : Program) (s : TypeId) (x : Operand) (f : Nat) : Option I :=
  match P.underlying s, cO P 0 x with
  | some (.struct fs), some y => match fs[f]? with
    | some g => match P.info? g.type with
      | some j => if j.size == 0 then none else some (.faddr g.offset y)
      | none => none
    | none => none
  | _, _ => none

def cField (P : Program) (s : TypeId) (x : Operand) (f : Nat) : Option I :=
  match P.underlying s, cO P s x with
  | some (.struct fs), some y => match fs[f]? with
    | some g => match P.info? g.type, P.underlying g.type with
      | some j, some _ => some (.field (isAggT P g.type) g.offset j.size y)
      | _, _ => none
    | none => none
  | _, _ => none

def cIndexAddr (P : Program) (t : TypeId) (x i : Operand) : Option I :=
  match P.underlying t, cO P t x, cO P 0 i with
  | some (.slice el), some y, some z => match P.info? el with
    | some j => some (.iaddrS j.size y z)
    | none => none
  | some (.array n el), some y, some z => match P.info? el with
    | some j => some (.iaddrA n j.size y z)
    | none => none
  | _, _, _ => none

def cIndex (P : Program) (t : TypeId) (x i : Operand) : Option I :=
  match P.underlying t, cO P t x, cO P 0 i with
  | some .string, some y, some z => some (.idxS y z)
  | some (.array n el), some y, some z => match P.info? el, P.underlying el with
    | some j, some _ => some (.idxA (isAggT P el) n j.size y z)
    | _, _ => none
  | _, _, _ => none

def cSlice (P : Program) (t : TypeId) (x : Operand) (lo hi mx : Option Operand) : Option I :=
  match P.underlying t, cO P t x, cOo P lo, cOo P hi, cOo P mx with
  | some .string, some y, some l, some h, some none => some (.slS y l h)
  | some (.slice el), some y, some l, some h, some m => match P.info? el with
    | some j => some (.slL (iK P el) j.size y l h m)
    | none => none
  | _, _, _, _, _ => none

def cMakeSlice (P : Program) (t : TypeId) (l c : Operand) : Option I :=
  match P.underlying t with
  | some (.slice el) => match P.info? el, zeroL P el, cO P 0 l, cO P 0 c with
    | some j, some z, some y, some x => if j.size == 0 then none else some (.mksl j.size j.bytes z (intOf z) y x)
    | _, _, _, _ => none
  | _ => none

def tyOf (P : Program) (t : TypeId) : Ty :=
  match P.underlying t with
  | some .bool => .bool
  | some (.pointer _) => .ptr
  | some (.slice _) => .slice
  | some (.func ..) => .func
  | some (.int _) | some .string | some (.float _) => .scalar
  | _ => .other

def cBin (P : Program) (op : BinOp) (t : TypeId) (x y : Operand) : Option I :=
  match cO P t x, cO P t y with
  | some a, some b => some (.bin op (tyOf P t) a b)
  | _, _ => none

def cConv (P : Program) (src dst : TypeId) (x : Operand) : Option I :=
  match P.underlying src, P.underlying dst, cO P src x with
  | some (.int _), some (.int k), some y => some (.toInt k y)
  | some (.int _), some (.float k), some y => some (.toFlt k y)
  | some .string, some .string, some y => some (.same y)
  | some .string, some (.slice e), some y => if iK P e matches some .u8 then some (.s2b y) else none
  | some (.slice e), some .string, some y => if iK P e matches some .u8 then some (.b2s y) else none
  | _, _, _ => none

def cBuiltin (P : Program) (b : Builtin) (ts : List TypeId) (xs : List Operand) : Option I :=
  match b, ts, xs with
  | .len, [t], [x] => match P.underlying t, cO P t x with
    | some .string, some y => some (.lenS y)
    | some (.slice _), some y => some (.len y)
    | some (.map _ _), some y => some (.mlen y)
    | _, _ => none
  | .cap, [t], [x] => match P.underlying t, cO P t x with
    | some (.slice _), some y => some (.cap y)
    | _, _ => none
  | .append, [t, u], [x, y] => match P.underlying t, P.underlying u, cO P t x, cO P u y with
    | some (.slice el), some (.slice _), some a, some b | some (.slice el), some .string, some a, some b => match P.info? el with
      | some j => if j.size == 0 || (zeroL P el).isNone then none else some (.append j.size j.bytes a b)
      | none => none
    | _, _, _, _ => none
  | .copy, [t, u], [x, y] => match P.underlying t, cO P t x, cO P u y with
    | some (.slice el), some a, some b => match P.info? el with
      | some j => if j.size == 0 then none else some (.copy j.size a b)
      | none => none
    | _, _, _ => none
  | .min, _, xs => match cOs0 P xs with
    | some l => some (.min l)
    | none => none
  | .max, _, xs => match cOs0 P xs with
    | some l => some (.max l)
    | none => none
  | _, _, _ => none

def cCall (P : Program) (c : Call) : Option I :=
  match c.callee with
  | .builtin b => cBuiltin P b c.argTypes.toList c.args.toList
  | .value (.func f) => match cOs P c.argTypes.toList c.args.toList with
    | some l => some (.call f l)
    | none => none
  | .value (.tmp t) => match cOs P c.argTypes.toList c.args.toList with
    | some l => some (.callv (.t t) l)
    | none => none
  | _ => none

def ktOf (P : Program) (t : TypeId) : Option KT :=
  match P.underlying t with
  | some (.int _) => some .int
  | some .string => some .str
  | some .bool => some .bool
  | _ => none

/-- A type's nought as one value. -/
def zeroV (P : Program) (t : TypeId) : Option V :=
  match P.info? t, zeroL P t with
  | some i, some l => match i.zero with
    | some (.agg _) => some (.agg l)
    | some _ => match l with
      | [v] => some v
      | _ => none
    | none => none
  | _, _ => none

def cMset (P : Program) (t : TypeId) (m k x : Operand) : Option I :=
  match P.underlying t with
  | some (.map kt el) => match ktOf P kt, cO P t m, cO P kt k, cO P el x with
    | some q, some a, some b, some c => some (.mset q a b c)
    | _, _, _, _ => none
  | _ => none

def cMget (P : Program) (t : TypeId) (ok : Bool) (m k : Operand) : Option I :=
  match P.underlying t with
  | some (.map kt el) => match ktOf P kt, zeroV P el, cO P t m, cO P kt k with
    | some q, some z, some a, some b => some (.mget q z ok a b)
    | _, _, _, _ => none
  | _ => none

def cMakeMap (P : Program) (t : TypeId) : Option Operand → Option I
  | none => some .mkmap
  | some (.const (.int _ _)) => match P.underlying t with
    | some (.map _ _) => some .mkmap
    | _ => none
  | _ => none

def cI (P : Program) (ty : TypeId) : Go.Op → Option I
  | .move x | .assign x => (cO P ty x).map .mv
  | .pick c a b => match cO P ty c, cO P ty a, cO P ty b with
    | some x, some y, some z => some (.pick x y z)
    | _, _, _ => none
  | .alloc el => (zeroL P el).map (.alloc · none)
  | .box el x => (cO P el x).map .box
  | .build t parts => cBuild P t parts.toList
  | .buildSlice t len parts => cBuildSlice P t len parts.toList
  | .load t a => cLoad P t a
  | .store t a x => cStore P t a x
  | .nilCheck x => (cO P ty x).map .nilchk
  | .binOp op t x y _ => cBin P op t x y
  | .unOp op t x => (cO P t x).map (.un op)
  | .convert s d x => cConv P s d x
  | .makeSlice t l c => cMakeSlice P t l c
  | .slice t x lo hi mx => cSlice P t x lo hi mx
  | .fieldAddr s x f => cFieldAddr P s x f
  | .field s x f => cField P s x f
  | .indexAddr t x i => cIndexAddr P t x i
  | .index t x i => cIndex P t x i
  | .extract x i => (cO P 0 x).map (.ext i)
  | .call c => cCall P c
  | .makeMap t r => cMakeMap P t r
  | .lookup t x i ok => cMget P t ok x i
  | .mapUpdate t m k x | .insert t m k x => cMset P t m k x
  | .makeFunc (.func f) a b => match cOs0 P a.toList, cOs0 P b.toList with
    | some x, some y => some (.mkf f x y)
    | _, _ => none
  | _ => none

def cOper (P : Program) (ops : Array Oper) (o : Oper) : Op :=
  match o.guard with
  | none => ⟨o.dst, (cI P o.type o.op).getD .bad, none⟩
  | some (j, want) => match (ops[j]?).bind (·.dst) with
    | some d => ⟨o.dst, (cI P o.type o.op).getD .bad, some (d, want)⟩
    | none => ⟨o.dst, .bad, none⟩

end Go.AM
