/- In which order a region that draws is taken, and what is asked of it; code turned. -/
import Derived.Test.YtgfohimonbagmaaGreatDoorAMComp
import Derived.Test.YtgfohimonbagmaaGreatDoorAMHeap
namespace Go.AM

/-- Does it turn rows that are there, or hang on more than a load does? -/
def I.isE (K : FuncId → Option (List V → Option V)) : I → Bool
  | .store .. | .append .. | .copy .. | .b2s _ | .callv .. | .mkmap | .mset .. | .mget .. | .mlen _ | .bad => true
  | .call f _ => (K f).isNone
  | _ => false
def I.isL : I → Bool
  | .load .. => true
  | _ => false
def I.isA : I → Bool
  | .box _ | .alloc .. | .bslice .. | .mksl .. | .s2b _ => true
  | _ => false

def edgesOf (o : Oper) : List Nat := (o.after.toList.filter (Region.binds .any ·)).map (·.on)

def Op.names (o : Op) : List Nat := o.dst.toList ++ o.i.uses ++ (match o.guard with | some (d, _) => [d] | none => [])
def Op.asks (o : Op) : List Nat := o.i.uses ++ (match o.guard with | some (d, _) => [d] | none => [])

/-- The operations of a region, by number. -/
def opAt (P : Program) (ops : Array Oper) (i : Nat) : Op :=
  match ops[i]? with
  | some o => cOper P ops o
  | none => ⟨none, .bad, none⟩
def edgesAt (ops : Array Oper) (i : Nat) : List Nat :=
  match ops[i]? with
  | some o => edgesOf o
  | none => []

/-- The order: what turns nothing first. -/
def canon (isE : Nat → Bool) (edges : Nat → List Nat) : Nat → List Nat → List Nat → List Nat
  | 0, _, done => done
  | n + 1, todo, done =>
    match todo.find? (fun i => !isE i && (edges i).all done.contains) with
    | some i => canon isE edges n (todo.erase i) (done ++ [i])
    | none => match todo.find? (fun i => (edges i).all done.contains) with
      | some i => canon isE edges n (todo.erase i) (done ++ [i])
      | none => done

/-- What stands ahead of each, as bits of one number: w bits for each. -/
def orN (w M : Nat) : List Nat → Nat → Nat
  | [], m => m
  | e :: r, m => orN w M r (m ||| (1 <<< e) ||| (M >>> (w * e)))
def forceNat {β : Type} (n : Nat) (k : Nat → β) : β :=
  match n with
  | 0 => k 0
  | Nat.succ m => k (Nat.succ m)
def masksN (edges : Nat → List Nat) (w : Nat) : List Nat → Nat → Nat
  | [], M => M
  | i :: r, M => forceNat (M ||| ((orN w M (edges i) 0 % 2 ^ w) <<< (w * i))) fun M => masksN edges w r M
def reachN (w M i j : Nat) : Bool := M.testBit (w * j + i)

def disj (d : Option Nat) (l : List Nat) : Bool :=
  match d with
  | some t => !l.contains t
  | none => true

def pairsOk (f : Nat → Nat → Bool) : List Nat → Bool
  | [] => true
  | i :: r => r.all (f i) && pairsOk f r

def predOk (edges : Nat → List Nat) : List Nat → List Nat → Bool
  | [], _ => true
  | i :: r, done => (edges i).all done.contains && !done.contains i && predOk edges r (i :: done)

def watchOf (rch : Nat → Nat → Bool) (isE isL : Nat → Bool) (ord : List Nat) (j : Nat) : List Nat :=
  if isE j then ord.filter fun i => isL i && !rch i j else []

/-- Do the edges go back in the text? -/
def backOk (ops : Array Oper) : Bool :=
  (List.range ops.size).all fun i => match ops[i]? with
    | some o => o.after.toList.all fun e => Nat.blt e.on i
    | none => true
def lineOk (ops : Array Oper) : Bool :=
  (Region.linearise .text ops 0).length == ops.size && (Region.linearise .gc ops 0).length == ops.size && (Region.linearise .any ops 0).length == ops.size

/-- What is asked of an order. -/
def okD (K : FuncId → Option (List V → Option V)) (P : Program) (ops : Array Oper) (ord : List Nat) : Bool :=
  let M := masksN (edgesAt ops) ops.size ord 0
  let at_ := opAt P ops
  ord.length == ops.size && ord.all (fun i => decide (i < ops.size)) && (List.range ops.size).all ord.contains && predOk (edgesAt ops) ord [] &&
    pairsOk (fun i j => reachN ops.size M i j || (disj (at_ i).dst (at_ j).names && disj (at_ j).dst (at_ i).names && !(at_ i).i.isE K)) ord &&
    (backOk ops || lineOk ops)

def mkD (K : FuncId → Option (List V → Option V)) (P : Program) (ops : Array Oper) (ord : List Nat) : List OpD :=
  let M := masksN (edgesAt ops) ops.size ord 0
  ord.map fun i => ⟨i, opAt P ops i, watchOf (reachN ops.size M) (fun j => (opAt P ops j).i.isE K) (fun j => (opAt P ops j).i.isL) ord i⟩

def planD (K : FuncId → Option (List V → Option V)) (P : Program) (ops : Array Oper) : C :=
  let ord := canon (fun i => (opAt P ops i).i.isE K) (edgesAt ops) ops.size (List.range ops.size) []
  if okD K P ops ord then .regd (mkD K P ops ord) else .bad

/-- CODE TURNED. -/
def comp (K : FuncId → Option (List V → Option V)) (P : Program) : Code → C
  | .skip | .label _ => .skip
  | .ret => .ret
  | .exit id => .exit id
  | .region _ ops false => .reg (ops.toList.map (cOper P ops))
  | .region _ ops true => planD K P ops
  | .seq a b => .seq (comp K P a) (comp K P b)
  | .cond c a b => match cO P 0 c with
    | some o => .cond o (comp K P a) (comp K P b)
    | none => .bad
  | .block id c => .block id (comp K P c)
  | .loop c => .loop (comp K P c)
  | _ => .bad

/-- Code without what is forgotten. -/
def erase : C → C
  | .forget _ c => erase c
  | .seq a b => .seq (erase a) (erase b)
  | .cond o a b => .cond o (erase a) (erase b)
  | .block id c => .block id (erase c)
  | .loop c => .loop (erase c)
  | c => c

def compRes (P : Program) : List ResultVar → Option (List Res)
  | [] => some []
  | .tmp t :: r => match compRes P r with
    | some l => some (.t t :: l)
    | none => none
  | .cell a t :: r => match P.info? t, P.underlying t, compRes P r with
    | some j, some _, some l => some (.cell a (isAggT P t) j.size :: l)
    | _, _, _ => none

/-- A function turned. -/
def compFn (K : FuncId → Option (List V → Option V)) (P : Program) (f : Func) : Option Fn :=
  match f.body, compRes P f.results.toList with
  | some c, some r => if f.name == "runtime.NumGoroutine" then none else some ⟨f.ntmps, r, comp K P c⟩
  | _, _ => none

end Go.AM
