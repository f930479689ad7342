/- An evaluator of the model's code over a store that forgets block numbers, capacities and drawn orders. -/
import Derived.Calls
import Derived.Defers
import Derived.Recover
import Derived.Orders
namespace Go.Ev

noncomputable section
inductive T (α : Type) where
  | leaf : T α
  | node : T α → Option α → T α → T α

/-- the road to a number: closed, so the kernel goes it once -/
def roadF (f : Nat) : Nat → List Bool :=
  Nat.rec (motive := fun _ => Nat → List Bool) (fun _ => []) (fun _ ih n => Nat.rec (motive := fun _ => List Bool) [] (fun k _ => Nat.beq (Nat.mod k 2) 0 :: ih (Nat.div k 2)) n) f

def road (n : Nat) : List Bool := roadF n n

def T.getR {α : Type} (t : T α) : List Bool → Option α :=
  T.rec (motive := fun _ => List Bool → Option α) (fun _ => none)
    (fun _ v _ gl gr p => List.casesOn (motive := fun _ => Option α) p v (fun b q => Bool.rec (motive := fun _ => List Bool → Option α) gr gl b q)) t

def T.get {α : Type} (t : T α) (n : Nat) : Option α := T.getR t (road n)

/-- put into nothing: the road is made -/
def T.oneR {α : Type} (p : List Bool) : Option α → T α :=
  List.rec (motive := fun _ => Option α → T α) (fun o => .node .leaf o .leaf) (fun b _ ih o => Bool.rec (motive := fun _ => T α → T α) (fun x => .node .leaf none x) (fun x => .node x none .leaf) b (ih o)) p

def T.putR {α : Type} (t : T α) : List Bool → Option α → T α :=
  T.rec (motive := fun _ => List Bool → Option α → T α) (fun p o => T.oneR p o)
    (fun l v r pl pr p o => List.casesOn (motive := fun _ => T α) p (.node l o r) (fun b q => Bool.rec (motive := fun _ => T α) (.node l v (pr q o)) (.node (pl q o) v r) b)) t

def T.put {α : Type} (t : T α) (n : Nat) (o : Option α) : T α := T.putR t (road n) o

/-- put where something is -/
def T.turnR {α : Type} (t : T α) : List Bool → α → T α :=
  T.rec (motive := fun _ => List Bool → α → T α) (fun _ _ => .leaf)
    (fun l v r pl pr p o => List.casesOn (motive := fun _ => T α) p (.node l (Option.casesOn (motive := fun _ => Option α) v none (fun _ => some o)) r) (fun b q => Bool.rec (motive := fun _ => T α) (.node l v (pr q o)) (.node (pl q o) v r) b)) t

def T.puts {α : Type} (t : T α) (n : Nat) (l : List α) : T α :=
  List.rec (motive := fun _ => T α → Nat → T α) (fun t _ => t) (fun x _ ih t n => ih (t.put n (some x)) (n + 1)) l t n

def T.gets {α : Type} (t : T α) : Nat → Nat → Option (List α)
  | _, 0 => some []
  | n, k + 1 => match t.get n with
    | some x => match t.gets (n + 1) k with
      | some l => some (x :: l)
      | none => none
    | none => none

structure Blk where
  t : T Value
  n : Nat
  es : Nat
  cls : Nat
  cs : Nat
  wr : Bool

inductive AO where
  | cells (b : Blk)
  | map (es : List MapEntry) (clock : Nat)
  | iter (s : ByteArray) (pos : Nat)
  | loop (e : T Value) (ps : Array Tmp) (assign body : Code) (st : LoopState) (pend : Option Code)
  | marks

structure St where
  h : T AO
  next : Nat
  cl : T (List Nat)

def CB : Nat := 2 ^ 62

/-- a new block under a number -/
def St.newAt (s : St) (i : Nat) (t : T Value) (n : Nat) (es : Nat) : St :=
  { s with h := s.h.put i (some (.cells { t, n, es, cls := i, cs := 0, wr := true })), cl := s.cl.put i (some [i]) }

def St.objAt (s : St) (i : Nat) (o : AO) : St := { s with h := s.h.put i (some o) }

def St.up (s : St) (n : Nat) : St := { s with next := s.next + n }

/-- kill the members of a class, but one, that reach behind a coordinate -/
def killList (h : T AO) (i c0 : Nat) : List Nat → T AO × List Nat
  | [] => (h, [])
  | m :: l =>
    bif Nat.beq m i then (match killList h i c0 l with | (h, l') => (h, m :: l')) else
    match h.get m with
    | some (.cells b) => bif Nat.ble (b.cs + b.n) c0 then (match killList h i c0 l with | (h, l') => (h, m :: l'))
      else killList (h.put m none) i c0 l
    | _ => killList h i c0 l

def isOnly (i : Nat) : List Nat → Bool
  | [x] => Nat.beq x i
  | _ => false

def St.kill (s : St) (cls i c0 : Nat) : Option St :=
  match s.cl.get cls with
  | some l => bif isOnly i l then some s else match killList s.h i c0 l with
    | (h, l') => some { s with h, cl := s.cl.put cls (some l') }
  | none => none

def oneCell : Value → Bool
  | .agg _ | .tuple _ => false
  | _ => true

/-- store cells into a block -/
def St.storeAt (s : St) (i j : Nat) (vs : List Value) : Option St :=
  match s.h.get i with
  | some (.cells b) =>
    bif b.wr && Nat.ble (j + vs.length) b.n && vs.all oneCell then
      match s.kill b.cls i (b.cs + j) with
      | some s => some { s with h := s.h.put i (some (.cells { b with t := b.t.puts j vs })) }
      | none => none
    else none
  | _ => none

def St.loadAt (s : St) (i j n : Nat) : Option (List Value) :=
  match s.h.get i with
  | some (.cells b) => b.t.gets j n
  | _ => none

section
variable (P : Program)

/-- a value without an address -/
def flatV : Nat → Value → Bool
  | _, .bool _ => true
  | _, .int _ _ => true
  | _, .string _ => true
  | _, .pointer none => true
  | _, .slice none n c => Nat.ble n c
  | _, .map none => true
  | _, .nilFunc => true
  | _, .nilIface => true
  | n + 1, .iface _ v => flatV n v
  | n + 1, .agg cs => cs.toList.all (flatV n)
  | n + 1, .tuple cs => cs.toList.all (flatV n)
  | _, _ => false

def sizeOf? (t : TypeId) : Option Nat := (P.info? t).map (·.size)
def bytesOf? (t : TypeId) : Option Nat := (P.info? t).map (·.bytes)
def zero? (t : TypeId) : Option Value := match P.info? t with
  | some i => match i.zero with
    | some z => bif flatV 8 z then some z else none
    | none => none
  | none => none
def isAgg? (t : TypeId) : Option Bool := match P.underlying t with
  | some (.struct _) | some (.array _ _) => some true
  | some _ => some false
  | none => none

def partAt (t : TypeId) (cs : Array Value) (off : Nat) : Option Value :=
  match isAgg? P t with
  | some true => (sizeOf? P t).map fun n => .agg (cs.extract off (off + n))
  | some false => cs[off]?
  | none => none

def St.loadVar (s : St) (t : TypeId) (i j : Nat) : Option Value :=
  match isAgg? P t with
  | some true => match sizeOf? P t with
    | some n => (s.loadAt i j n).map fun l => .agg l.toArray
    | none => none
  | some false => match s.loadAt i j 1 with
    | some [v] => some v
    | _ => none
  | none => none

def St.storeVar (s : St) (t : TypeId) (i j : Nat) (v : Value) : Option St :=
  match sizeOf? P t with
  | some n => bif Nat.beq v.cells.size n then s.storeAt i j v.cells.toList else none
  | none => none

def allB {α : Type} (f : α → Option Bool) : List α → Option Bool
  | [] => some true
  | x :: l => match f x with
    | some true => allB f l
    | some false => some false
    | none => none

def aEq : Nat → TypeId → Value → Value → Option Bool
  | 0, _, _, _ => none
  | d + 1, t, x, y =>
    match P.underlying t, x, y with
    | some .bool, .bool a, .bool b => some (a == b)
    | some (.int _), .int k a, .int k' b => if k = k' then some (a == b) else none
    | some .string, .string a, .string b => some (a == b)
    | some (.pointer _), .pointer none, .pointer b => some b.isNone
    | some (.pointer _), .pointer _, .pointer none => some false
    | some (.interface _), .nilIface, .nilIface => some true
    | some (.interface _), .nilIface, .iface _ _ => some false
    | some (.interface _), .iface _ _, .nilIface => some false
    | some (.interface _), .iface tx vx, .iface ty vy =>
      if tx ≠ ty then some false else
      match P.info? tx with
      | some i => if i.comparable then aEq d tx vx vy else none
      | none => none
    | some (.struct fields), .agg xs, .agg ys =>
      if P.stoodInHeld t then none else
      allB (fun f : Field => if f.name ≠ "_" then (match partAt P f.type xs f.offset, partAt P f.type ys f.offset with | some a, some b => aEq d f.type a b | _, _ => none) else some true) fields.toList
    | some (.slice _), .slice none _ _, .slice b _ _ => some b.isNone
    | some (.slice _), .slice _ _ _, .slice none _ _ => some false
    | some (.map _ _), .map none, .map b => some b.isNone
    | some (.map _ _), .map _, .map none => some false
    | some (.func _ _ _), .nilFunc, .nilFunc => some true
    | some (.func _ _ _), .nilFunc, .func _ _ _ => some false
    | some (.func _ _ _), .func _ _ _, .nilFunc => some false
    | _, _, _ => none

def isConstO : Operand → Bool
  | .const _ => true
  | _ => false

def bytesLt : List UInt8 → List UInt8 → Bool := Op.bytesLess

def aGuard (t : TypeId) (x y : Operand) (a b : Value) : Bool :=
  match a, b with
  | .nilIface, .nilIface => isConstO x || isConstO y
  | .agg _, .agg _ => !P.eqGuardType P.depth t
  | _, _ => true

def aBin (op : BinOp) (t : TypeId) (x y : Operand) (a b : Value) : Option Value :=
  match a, b with
  | .int k a, .int k' b =>
    match op with
    | .shl => if b < 0 then none else some (.int k (k.wrap (a * 2 ^ (min b.toNat k.bits))))
    | .shr => if b < 0 then none else some (.int k (a.fdiv (2 ^ (min b.toNat k.bits))))
    | _ =>
    if k ≠ k' then none else
    match op with
    | .add => some (.int k (k.wrap (a + b)))
    | .sub => some (.int k (k.wrap (a - b)))
    | .mul => some (.int k (k.wrap (a * b)))
    | .quo => if b = 0 then none else some (.int k (k.wrap (a.tdiv b)))
    | .rem => if b = 0 then none else some (.int k (a.tmod b))
    | .and => some (.int k (k.wrap (BitVec.ofInt k.bits a &&& BitVec.ofInt k.bits b).toNat))
    | .or => some (.int k (k.wrap (BitVec.ofInt k.bits a ||| BitVec.ofInt k.bits b).toNat))
    | .xor => some (.int k (k.wrap (BitVec.ofInt k.bits a ^^^ BitVec.ofInt k.bits b).toNat))
    | .eql => some (.bool (a == b))
    | .neq => some (.bool (a != b))
    | .lss => some (.bool (a < b))
    | .leq => some (.bool (a ≤ b))
    | .gtr => some (.bool (a > b))
    | .geq => some (.bool (a ≥ b))
    | _ => none
  | .string a, .string b =>
    match op with
    | .add => if a.size + b.size ≤ 1048576 then some (.string (a ++ b)) else none
    | .eql => some (.bool (a.toList == b.toList))
    | .neq => some (.bool (!(a.toList == b.toList)))
    | .lss => some (.bool (Op.bytesLess a.toList b.toList))
    | .leq => some (.bool (Op.bytesLess a.toList b.toList || a.toList == b.toList))
    | .gtr => some (.bool (!(Op.bytesLess a.toList b.toList || a.toList == b.toList)))
    | .geq => some (.bool (!Op.bytesLess a.toList b.toList))
    | _ => none
  | a, b =>
    bif aGuard P t x y a b then
      match op with
      | .eql => (aEq P 10000 t a b).map fun r => .bool r
      | .neq => (aEq P 10000 t a b).map fun r => .bool (!r)
      | _ => none
    else none

def aBound (v : Value) (y : Nat) : Option Nat :=
  match v with
  | .int _ i => if 0 ≤ i ∧ i ≤ y then some i.toNat else none
  | _ => none

/-- slice bounds where the capacity may be unknown: a bound above the length is then refused -/
def aBounds (len cap : Nat) (lo hi mx : Option Value) : Option (Nat × Nat × Option Nat) :=
  match mx with
  | some v =>
    match aBound v (bif Nat.ble CB cap then len else cap) with
    | some m => match hi with
      | some h => match aBound h m with
        | some h => match lo with
          | some l => (aBound l h).map fun l => (l, h, some m)
          | none => some (0, h, some m)
        | none => none
      | none => none
    | none => none
  | none =>
    match (match hi with | some h => aBound h (bif Nat.ble CB cap then len else cap) | none => some len) with
    | some h => match lo with
      | some l => (aBound l h).map fun l => (l, h, none)
      | none => some (0, h, none)
    | none => none

def aSlice (t : TypeId) (x : Value) (lo hi mx : Option Value) : Option Value :=
  match P.underlying t, x with
  | some .string, .string s =>
    if mx.isSome then none else
    (aBounds s.size s.size lo hi none).map fun (l, h, _) => .string (s.extract l h)
  | some (.slice elem), .slice a len cap =>
    match aBounds len cap lo hi mx, sizeOf? P elem with
    | some (l, h, m), some size =>
      match a with
      | none => some (.slice none (h - l) (match m with | some m => m - l | none => cap - l))
      | some ⟨i, o, none⟩ =>
        match m with
        | some m => bif Nat.ble CB m then none else some (.slice (some ⟨i, bif Nat.beq m l then o else o + l * size, none⟩) (h - l) (m - l))
        | none => bif Nat.ble CB cap then some (.slice (some ⟨i, o + l * size, none⟩) (h - l) (cap + l))
          else some (.slice (some ⟨i, bif Nat.beq cap l then o else o + l * size, none⟩) (h - l) (cap - l))
      | _ => none
    | _, _ => none
  | some (.array n elem), .pointer (some ⟨i, o, none⟩) =>
    match aBounds n n lo hi mx, sizeOf? P elem with
    | some (l, h, m), some size =>
      let m := m.getD n
      bif Nat.ble CB n then none else
      some (.slice (some ⟨i, bif Nat.beq m l then o else o + l * size, none⟩) (h - l) (m - l))
    | _, _ => none
  | _, _ => none

abbrev Env := T Value

def Env.ev (e : Env) : Operand → Option Value
  | .tmp t => T.get e t
  | .const v => bif flatV 8 v then some v else none
  | .global g => bif Nat.blt g P.globals.size then some (.pointer (some ⟨g, 0, none⟩)) else none
  | .func f => some (.func (.func f) #[] #[])

def Env.evs (e : Env) : List Operand → Option (List Value)
  | [] => some []
  | x :: l => match Env.ev P e x with
    | some v => match Env.evs e l with
      | some vs => some (v :: vs)
      | none => none
    | none => none

def Env.evParts (e : Env) : List (Nat × Operand) → Option (List (Nat × Value))
  | [] => some []
  | (i, x) :: l => match Env.ev P e x with
    | some v => match Env.evParts e l with
      | some vs => some ((i, v) :: vs)
      | none => none
    | none => none

def Env.evOpt (e : Env) : Option Operand → Option (Option Value)
  | none => some none
  | some x => (Env.ev P e x).map some

/-- a key that may be asked for -/
def aKey : Nat → TypeId → Value → Bool
  | 0, _, _ => false
  | n + 1, t, v =>
    match P.underlying t, v with
    | some (.struct fields), .agg cs => fields.toList.all fun f => decide (f.name = "_") || (match partAt P f.type cs f.offset with | some p => aKey n f.type p | none => false)
    | some (.int _), _ => true
    | some .string, _ => true
    | some .bool, _ => true
    | _, _ => false

def listEq (f : Value → Value → Bool) : List Value → List Value → Bool
  | [], [] => true
  | a :: l, b :: m => f a b && listEq f l m
  | _, _ => false

/-- the same to the bit -/
def valEq : Nat → Value → Value → Bool
  | _, .bool a, .bool b => a == b
  | _, .int j a, .int k b => decide (j = k) && a == b
  | _, .string a, .string b => a.data.toList == b.data.toList
  | _, .pointer a, .pointer b => decide (a = b)
  | _, .slice a n c, .slice b m d => decide (a = b) && Nat.beq n m && Nat.beq c d
  | _, .map a, .map b => decide (a = b)
  | _, .nilFunc, .nilFunc => true
  | _, .nilIface, .nilIface => true
  | n + 1, .iface t v, .iface u w => Nat.beq t u && valEq n v w
  | n + 1, .agg a, .agg b => listEq (valEq n) a.toList b.toList
  | n + 1, .tuple a, .tuple b => listEq (valEq n) a.toList b.toList
  | n + 1, .func (.func f) a c, .func (.func g) b d => Nat.beq f g && listEq (valEq n) a.toList b.toList && listEq (valEq n) c.toList d.toList
  | _, _, _ => false

def aFind (t : TypeId) (k : Value) : List MapEntry → Nat → Option (Option (Nat × Value))
  | [], _ => some none
  | e :: es, i => match aEq P 10000 t k e.key with
    | some true => some (some (i, e.val))
    | some false => aFind t k es (i + 1)
    | none => none

def bytesOfCells : List Value → Option (List UInt8)
  | [] => some []
  | .int .u8 b :: l => (bytesOfCells l).map (UInt8.ofNat b.toNat :: ·)
  | _ => none

def lenOf? : Value → Option Nat
  | .slice _ n _ => some n
  | .string s => some s.size
  | _ => none

def max2? : Value → Value → Option Value
  | .int k x, .int _ y => some (.int k (if y > x then y else x))
  | _, _ => none
def min2? : Value → Value → Option Value
  | .int k x, .int _ y => some (.int k (if y < x then y else x))
  | _, _ => none
def fold2 (f : Value → Value → Option Value) : Value → List Value → Option Value
  | x, [] => some x
  | x, y :: l => match f x y with
    | some z => fold2 f z l
    | none => none

/-- what gives a value and turns nothing -/
def aRead (o : Oper) (e : Env) (s : St) : Option Value :=
  match o.op with
  | .move x | .assign x => Env.ev P e x
  | .pick c a b => match Env.ev P e c with
    | some (.bool true) => Env.ev P e a
    | some (.bool false) => Env.ev P e b
    | _ => none
  | .nilCheck x => match Env.ev P e x with
    | some (.pointer (some a)) => some (.pointer (some a))
    | some (.iface t v) => some (.iface t v)
    | some (.func (.func f) a b) => some (.func (.func f) a b)
    | _ => none
  | .binOp op t x y _ => match Env.ev P e x, Env.ev P e y with
    | some a, some b => aBin P op t x y a b
    | _, _ => none
  | .unOp op _ x => match op, Env.ev P e x with
    | .neg, some (.int k n) => some (.int k (k.wrap (0 - n)))
    | .not, some (.bool b) => some (.bool (!b))
    | _, _ => none
  | .convert src dst x => match P.underlying src, P.underlying dst, Env.ev P e x with
    | some (.int _), some (.int k), some (.int _ n) => some (.int k (k.wrap n))
    | some .string, some .string, some (.string b) => some (.string b)
    | some (.slice el), some .string, some x => match P.underlying el, x with
      | some (.int .u8), .slice none _ _ => some (.string .empty)
      | some (.int .u8), .slice (some ⟨i, j, none⟩) n _ => match s.loadAt i j n with
        | some l => (bytesOfCells l).map fun l => .string ⟨l.toArray⟩
        | none => none
      | _, _ => none
    | _, _, _ => none
  | .makeInterface t x => match P.underlying t with
    | some (.interface _) => none
    | some _ => (Env.ev P e x).map fun v => .iface t v
    | none => none
  | .makeFunc (.func f) first captured => match Env.evs P e first.toList, Env.evs P e captured.toList with
    | some a, some b => some (.func (.func f) a.toArray b.toArray)
    | _, _ => none
  | .slice t x lo hi mx => match Env.ev P e x, Env.evOpt P e lo, Env.evOpt P e hi, Env.evOpt P e mx with
    | some x, some lo, some hi, some mx => aSlice P t x lo hi mx
    | _, _, _, _ => none
  | .fieldAddr t x f => match P.underlying t, Env.ev P e x with
    | some (.struct fs), some (.pointer (some ⟨i, j, none⟩)) => match fs[f]? with
      | some f => match sizeOf? P f.type with
        | some (_ + 1) => some (.pointer (some ⟨i, j + f.offset, none⟩))
        | _ => none
      | none => none
    | _, _ => none
  | .field t x f => match P.underlying t, Env.ev P e x with
    | some (.struct fs), some (.agg cs) => match fs[f]? with
      | some f => partAt P f.type cs f.offset
      | none => none
    | _, _ => none
  | .indexAddr t x ix => match P.underlying t, Env.ev P e x, Env.ev P e ix with
    | some (.array len el), some (.pointer (some ⟨i, j, none⟩)), some (.int _ n) =>
      if 0 ≤ n ∧ n < len then (sizeOf? P el).map fun sz => .pointer (some ⟨i, j + n.toNat * sz, none⟩) else none
    | some (.slice el), some (.slice (some ⟨i, j, none⟩) len _), some (.int _ n) =>
      if 0 ≤ n ∧ n < len then (sizeOf? P el).map fun sz => .pointer (some ⟨i, j + n.toNat * sz, none⟩) else none
    | _, _, _ => none
  | .index t x ix => match P.underlying t, Env.ev P e x, Env.ev P e ix with
    | some (.array len el), some (.agg cs), some (.int _ n) =>
      if 0 ≤ n ∧ n < len then (match sizeOf? P el with | some sz => partAt P el cs (n.toNat * sz) | none => none) else none
    | some .string, some (.string b), some (.int _ n) => match (if 0 ≤ n then b[n.toNat]? else none) with
      | some c => some (.int .u8 c.toNat)
      | none => none
    | _, _, _ => none
  | .extract t ix => match Env.ev P e t with
    | some (.tuple vs) => vs[ix]?
    | _ => none
  | .build t parts => match P.underlying t, zero? P t, Env.evParts P e parts.toList with
    | some (.struct fields), some z, some ps =>
      match fields.toList.mapM (fun f : Field => (sizeOf? P f.type).map fun n => (f.offset, n)) with
      | some places => (Instr.fill (fun i => places[i]?) z.cells ps).map .agg
      | none => none
    | some (.array _ el), some z, some ps => match sizeOf? P el with
      | some sz => (Instr.fill (fun i => some (i * sz, sz)) z.cells ps).map .agg
      | none => none
    | _, _, _ => none
  | .typeAssert x _ asserted ok => match P.underlying asserted, Env.ev P e x with
    | some (.interface _), _ => none
    | some _, some (.iface t v) => if t = asserted then some (bif ok then .tuple #[v, .bool true] else v) else bif ok then (zero? P asserted).map fun z => .tuple #[z, .bool false] else none
    | some _, some .nilIface => bif ok then (zero? P asserted).map fun z => .tuple #[z, .bool false] else none
    | _, _ => none
  | .load t a => match Env.ev P e a with
    | some (.pointer (some ⟨i, j, none⟩)) => s.loadVar P t i j
    | _ => none
  | .lookup t x ix ok => match P.underlying t, Env.ev P e x, Env.ev P e ix with
    | some (.map key el), some (.map r), some k =>
      match (match r with | none => some [] | some r => match s.h.get r with | some (.map es _) => some es | _ => none) with
      | some es => bif aKey P 10000 key k then (match aFind P key k es 0, zero? P el with
        | some (some (_, v)), _ => some (bif ok then .tuple #[v, .bool true] else v)
        | some none, some z => some (bif ok then .tuple #[z, .bool false] else z)
        | _, _ => none) else none
      | none => none
    | _, _, _ => none
  | .call { callee := .builtin .len, args, argTypes } => match args.toList, argTypes.toList with
    | [x], [t] => match P.underlying t, Env.ev P e x with
      | some .string, some (.string b) => some (.int .i64 b.size)
      | some (.slice _), some (.slice _ n _) => some (.int .i64 n)
      | some (.array n _), some _ => some (.int .i64 n)
      | some (.map _ _), some (.map none) => some (.int .i64 0)
      | some (.map _ _), some (.map (some r)) => match s.h.get r with
        | some (.map es _) => some (.int .i64 es.length)
        | _ => none
      | _, _ => none
    | _, _ => none
  | .call { callee := .builtin .cap, args, argTypes } => match args.toList, argTypes.toList with
    | [x], [t] => match P.underlying t, Env.ev P e x with
      | some (.slice _), some (.slice _ _ n) => bif Nat.ble CB n then none else some (.int .i64 n)
      | _, _ => none
    | _, _ => none
  | .call { callee := .builtin .max, args, .. } => match Env.evs P e args.toList with
    | some (x :: l) => fold2 max2? x l
    | _ => none
  | .call { callee := .builtin .min, args, .. } => match Env.evs P e args.toList with
    | some (x :: l) => fold2 min2? x l
    | _ => none
  | _ => none

def truncT (t : T Value) (n : Nat) : Option (T Value) := (t.gets 0 n).map fun l => T.leaf.puts 0 l

def zerosOf (z : List Value) : Nat → List Value
  | 0 => []
  | n + 1 => z ++ zerosOf z n

def keepMax : Nat := 6

/-- behind an append that may have gone either way: the class has a member more; the eldest beyond the most are dropped -/
def trimCl (h : T AO) : Nat → List Nat → T AO × List Nat
  | _, [] => (h, [])
  | 0, m :: l => trimCl (h.put m none) 0 l
  | k + 1, m :: l => match trimCl h k l with | (h, l') => (h, m :: l')

/-- the first cells of a block from a place on, as a tree of their own -/
def frontOf (b : Blk) (o k : Nat) : Option (T Value) :=
  bif Nat.beq o 0 && Nat.beq b.n k then some b.t else (b.t.gets o k).map fun l => T.leaf.puts 0 l

def aAppend (s : St) (elem : TypeId) (x : Value) (new : List Value) (n : Nat) : Option (Value × St) :=
  match P.info? elem, zero? P elem, x with
  | some info, some z, .slice base len cap =>
    let size := info.size
    bif !(Nat.ble (len + n) 16777216 && Nat.ble info.bytes 65536 && !(Nat.beq info.bytes 0) && Nat.beq new.length (n * size) && !(Nat.beq size 0) && Nat.beq z.cells.size size && new.all oneCell) then none else
    bif Nat.beq n 0 then some (x, s) else
    bif !(Nat.ble CB cap) && Nat.ble (len + n) cap then
      match base with
      | some ⟨i, o, none⟩ => match s.storeAt i (o + len * size) new with
        | some s => some (.slice (some ⟨i, o, none⟩) (len + n) cap, s)
        | none => none
      | _ => none
    else match base with
    | none => bif Nat.beq len 0 && Nat.beq cap 0 then some (.slice (some ⟨s.next, 0, none⟩) n CB, (s.newAt s.next (T.leaf.puts 0 new) (n * size) size).up 1)
      else none
    | some ⟨i, o, none⟩ =>
      match s.h.get i with
      | some (.cells b) =>
        let e := o + len * size
        bif Nat.ble CB cap then
          bif Nat.beq o ((cap - CB) * size) && Nat.beq b.es size && Nat.ble e b.n && b.wr then
            match frontOf b o (len * size) with
            | some t => match s.kill b.cls (bif Nat.beq b.n e then i else s.next) (b.cs + e) with
              | some s1 => match s1.cl.get b.cls with
                | some l => some (.slice (some ⟨s.next, 0, none⟩) (len + n) CB,
                    { h := (trimCl s1.h keepMax l).1.put s.next (some (.cells { t := t.puts (len * size) new, n := (len + n) * size, es := size, cls := b.cls, cs := b.cs + o, wr := true })), next := s.next + 1, cl := s1.cl.put b.cls (some (s.next :: (trimCl s1.h keepMax l).2)) })
                | none => none
              | none => none
            | none => none
          else none
        else match b.t.gets o (len * size) with
          | some l => some (.slice (some ⟨s.next, 0, none⟩) (len + n) CB, (s.newAt s.next (T.leaf.puts 0 (l ++ new)) ((len + n) * size) size).up 1)
          | none => none
      | _ => none
    | _ => none
  | _, _, _ => none

def appZeros (argTypes : Array TypeId) : Option Bool :=
  match argTypes[1]? with
  | none => none
  | some t => match P.underlying t with
    | some (.int _) => some true
    | some (.slice _) => some false
    | some .string => some false
    | _ => none

/-- the cells that an append puts behind, and how many elements they are -/
def aAppended (s : St) (el : TypeId) (argTypes : Array TypeId) (y : Value) : Option (List Value × Nat) :=
  match appZeros P argTypes, y with
  | some false, .string b => match P.info? el with
    | some info => bif Nat.beq info.size 1 then some (b.data.toList.map fun c => Value.int .u8 c.toNat, b.size) else none
    | none => none
  | some false, .slice none n _ => bif Nat.beq n 0 then some ([], 0) else none
  | some false, .slice (some ⟨i, j, none⟩) n _ =>
    bif Nat.beq n 0 then some ([], 0) else
    match P.info? el with
    | some info => match s.loadAt i j (n * info.size) with
      | some l => some (l, n)
      | none => none
    | none => none
  | some true, .int _ n => match P.info? el, zero? P el with
    | some info, some z => if 0 < n ∧ n ≤ 16777216 ∧ info.bytes ≤ 65536 then some (zerosOf z.cells.toList n.toNat, n.toNat) else none
    | _, _ => none
  | _, _ => none

/-- what makes a new block, or map, and reads nothing: its cells (none: a map), the slice's two numbers (none: a pointer) -/
structure Alc where
  cells : Option (List Value)
  sl : Option (Nat × Nat)

def aAlloc (o : Oper) (e : Env) : Option Alc :=
  match o.op with
  | .alloc t => match zero? P t with
    | some z => some ⟨some z.cells.toList, none⟩
    | none => none
  | .box _ x => match Env.ev P e x with
    | some v => some ⟨some v.cells.toList, none⟩
    | none => none
  | .buildSlice t len parts => match P.underlying t, Env.evParts P e parts.toList with
    | some (.slice el), some ps => match sizeOf? P el, zero? P el with
      | some sz, some z =>
        bif Nat.ble (len * sz) 65536 && Nat.beq z.cells.size sz && Nat.ble len 65536 then
        match Instr.fill (fun i => some (i * sz, sz)) (zerosOf z.cells.toList len).toArray ps with
        | some cs => some ⟨some cs.toList, some (len, len)⟩
        | none => none
        else none
      | _, _ => none
    | _, _ => none
  | .makeSlice t l c => match P.underlying t, Env.ev P e l, Env.ev P e c with
    | some (.slice el), some (.int _ l), some (.int _ c) => match P.info? el, zero? P el with
      | some inf, some z => if 0 ≤ l ∧ l ≤ c ∧ c ≤ 16777216 ∧ inf.bytes ≤ 65536 ∧ z.cells.size = inf.size then some ⟨some (zerosOf z.cells.toList c.toNat), some (l.toNat, c.toNat)⟩
        else none
      | _, _ => none
    | _, _, _ => none
  | .makeMap t r => match P.underlying t, Env.evOpt P e r with
    | some (.map _ _), some none => some ⟨none, none⟩
    | some (.map _ _), some (some (.int _ _)) => some ⟨none, none⟩
    | _, _ => none
  | _ => none

def Alc.val (c : Alc) (i : Nat) : Value :=
  match c.cells, c.sl with
  | none, _ => .map (some i)
  | some _, none => .pointer (some ⟨i, 0, none⟩)
  | some _, some (l, k) => .slice (some ⟨i, 0, none⟩) l k

def Alc.make (c : Alc) (s : St) (i : Nat) : St :=
  match c.cells with
  | none => s.objAt i (.map [] 0)
  | some l => s.newAt i (T.leaf.puts 0 l) l.length 0

def copySrc (s : St) (size n : Nat) : Value → Option (List Value)
  | .string b => bif Nat.beq size 1 then some ((b.data.toList.take n).map fun c => Value.int .u8 c.toNat) else none
  | .slice (some ⟨i, j, none⟩) _ _ => bif Nat.beq n 0 then some [] else s.loadAt i j (n * size)
  | .slice none _ _ => some []
  | _ => none

/-- what turns the store, but for calls and what makes a new block alone -/
def aEff (o : Oper) (e : Env) (s : St) : Option (Value × St) :=
  match o.op with
  | .range t x => match P.underlying t, Env.ev P e x with
    | some .string, some (.string b) => some (.pointer (some ⟨s.next, 0, none⟩), (s.objAt s.next (.iter b 0)).up 1)
    | _, _ => none
  | .next it true => match Env.ev P e it with
    | some (.pointer (some ⟨i, 0, none⟩)) => match s.h.get i with
      | some (.iter b pos) =>
        bif Nat.ble b.size pos then some (.tuple #[.bool false], s) else
        match Utf8.decode b pos with
        | (c, width) => some (.tuple #[.bool true, .int .i64 pos, .int .i32 c], { s with h := s.h.put i (some (.iter b (pos + width))) })
      | _ => none
    | _ => none
  | .store t a x => match Env.ev P e a, Env.ev P e x with
    | some (.pointer (some ⟨i, j, none⟩)), some v => (s.storeVar P t i j v).map fun s => (.tuple #[], s)
    | _, _ => none
  | .mapUpdate t m k x | .insert t m k x => match P.underlying t, Env.ev P e m, Env.ev P e k, Env.ev P e x with
    | some (.map key _), some (.map (some r)), some k, some v => match s.h.get r with
      | some (.map es clock) => bif !(aKey P 10000 key k) then none else match aFind P key k es 0 with
        | some (some (i, _)) => match es[i]? with
          | some e => bif valEq 8 k e.key then some (.tuple #[], { s with h := s.h.put r (some (.map (es.modify i fun e => { e with val := v }) clock)) }) else none
          | none => none
        | some none => some (.tuple #[], { s with h := s.h.put r (some (.map (es ++ [{ key := k, val := v, born := clock }]) (clock + 1))) })
        | none => none
      | _ => none
    | _, _, _, _ => none
  | .call { callee := .builtin .append, args, argTypes } => match Env.evs P e args.toList, argTypes.toList with
    | some [x, y], [t, _] => match P.underlying t with
      | some (.slice el) => match aAppended P s el argTypes y with
        | some (new, n) => aAppend P s el x new n
        | none => none
      | _ => none
    | _, _ => none
  | .call { callee := .builtin .delete, args, argTypes } => match Env.evs P e args.toList, argTypes.toList with
    | some [m, k], t :: _ => match P.underlying t, m with
      | some (.map key _), .map none => bif aKey P 10000 key k then some (.tuple #[], s) else none
      | some (.map key _), .map (some r) => match s.h.get r with
        | some (.map es clock) => bif !(aKey P 10000 key k) then none else match aFind P key k es 0 with
          | some (some (i, _)) => some (.tuple #[], { s with h := s.h.put r (some (.map (es.eraseIdx i) clock)) })
          | some none => some (.tuple #[], s)
          | none => none
        | _ => none
      | _, _ => none
    | _, _ => none
  | .call { callee := .builtin .clear, args, argTypes } => match Env.evs P e args.toList, argTypes.toList with
    | some [x], t :: _ => match P.underlying t, x with
      | some (.slice el), .slice (some ⟨i, j, none⟩) n _ => match zero? P el with
        | some z => (s.storeAt i j (zerosOf z.cells.toList n)).map fun s => (.tuple #[], s)
        | none => none
      | some (.slice _), .slice none _ _ => some (.tuple #[], s)
      | _, _ => none
    | _, _ => none
  | .call { callee := .builtin .copy, args, argTypes } => match Env.evs P e args.toList, argTypes.toList with
    | some [.slice base dl _, y], t :: _ => match P.underlying t with
      | some (.slice el) => match P.info? el, lenOf? y with
        | some info, some m =>
          match copySrc s info.size (Nat.min m dl) y with
          | some l => match base with
            | some ⟨i, j, none⟩ => (s.storeAt i j l).map fun s => (.int .i64 (Nat.min m dl : Nat), s)
            | none => some (.int .i64 (Nat.min m dl : Nat), s)
            | _ => none
          | none => none
        | _, _ => none
      | _ => none
    | _, _ => none
  | .convert src dst x => match P.underlying src, P.underlying dst, Env.ev P e x with
    | some .string, some (.slice el), some (.string b) => match P.underlying el with
      | some (.int .u8) => some (.slice (some ⟨s.next, 0, none⟩) b.size CB, (s.newAt s.next (T.leaf.puts 0 (b.data.toList.map fun c => Value.int .u8 c.toNat)) b.size 1).up 1)
      | _ => none
    | _, _, _ => none
  | _ => none

/-- a deferred call that waits -/
structure Dfr where
  f : FuncId
  args : List Value
  mark : Option Nat

structure Act' where
  t : Env
  d : List Dfr

inductive Out where
  | normal
  | exit (id : Nat)
  | ret
  | panic (v : Value)

/-- the mode of the frame whose deferred call runs -/
inductive FM where
  | returning
  | panicking (v : Value) (recovered : Bool)

def guardOk (ops : List Oper) (e : Env) (o : Oper) : Option Bool :=
  match o.guard with
  | none => some true
  | some (j, want) => match ops[j]? with
    | some o => match o.dst with
      | some d => match T.get e d with
        | some (.bool b) => some (b == want)
        | some _ => some false
        | none => none
      | none => some false
    | none => some false

def putE (e : Env) (d : Option Tmp) (v : Value) : Env :=
  Option.casesOn (motive := fun _ => Env → Value → Env) d (fun e _ => e) (fun d e v => T.turnR e (road d) v) e v

def Act'.put (a : Act') (d : Option Tmp) (v : Value) : Act' := { a with t := putE a.t d v }

/-- the method of an interface value, and its receiver -/
def aFollow (s : St) : List FieldStep → TypeId → Value ⊕ (Nat × Nat) → Option (TypeId × (Value ⊕ (Nat × Nat)))
  | [], t, x => some (t, x)
  | st :: rest, t, x =>
    match P.underlying st.struct with
    | some (.struct fields) => match fields[st.index]? with
      | some f =>
        if st.deref then
          match (match x with | .inl v => some v | .inr (i, j) => s.loadVar P t i j) with
          | some (.pointer (some ⟨i, j, none⟩)) => match sizeOf? P f.type with
            | some (_ + 1) => aFollow s rest f.type (.inr (i, j + f.offset))
            | _ => none
          | _ => none
        else match x with
          | .inr (i, j) => match sizeOf? P f.type with
            | some (_ + 1) => aFollow s rest f.type (.inr (i, j + f.offset))
            | _ => none
          | .inl (.agg cs) => match partAt P f.type cs f.offset with
            | some v => aFollow s rest f.type (.inl v)
            | none => none
          | _ => none
      | none => none
    | _ => none

def aGet (s : St) (t : TypeId) : Value ⊕ (Nat × Nat) → Option Value
  | .inl v => some v
  | .inr (i, j) => s.loadVar P t i j

def aReceiver (s : St) (t : TypeId) (x : Value ⊕ (Nat × Nat)) (ptr : Bool) : Option Value :=
  match P.underlying t, ptr, x with
  | some (.pointer _), true, x => aGet P s t x
  | some (.pointer el), false, x => match aGet P s t x with
    | some (.pointer (some ⟨i, j, none⟩)) => s.loadVar P el i j
    | _ => none
  | some _, true, .inr (i, j) => some (.pointer (some ⟨i, j, none⟩))
  | some _, false, x => aGet P s t x
  | _, _, _ => none

/-- the callee and its arguments -/
def aCallee (c : Call) (e : Env) (s : St) : Option (FuncId × List Value) :=
  match c.callee with
  | .value f => match Env.ev P e f, Env.evs P e c.args.toList with
    | some (.func (.func f) first captured), some args => some (f, first.toList ++ args ++ captured.toList)
    | _, _ => none
  | .invoke r name => match Env.ev P e r, Env.evs P e c.args.toList with
    | some (.iface t v), some args => match P.info? t with
      | some i => match i.methods.find? (·.name == name) with
        | some m => match m.func with
          | some (f, ptr) => match aFollow P s m.path.toList t (.inl v) with
            | some (t, x) => match aReceiver P s t x ptr with
              | some r => some (f, r :: args)
              | none => none
            | none => none
          | none => none
        | none => none
      | none => none
    | _, _ => none
  | .builtin _ => none

def aExtern (fn : Func) (args : List Value) (s : St) : Option (Value × St) :=
  if fn.origin ≠ "" then none else
  if fn.name = "maps.clone" then
    match args with
    | [.iface t (.map (some r))] => match s.h.get r with
      | some (.map es clock) => some (.iface t (.map (some s.next)), (s.objAt s.next (.map es clock)).up 1)
      | _ => none
    | _ => none
  else if fn.name = "internal/bytealg.IndexByteString" then
    match args with
    | [.string b, .int .u8 c] => match (List.range b.size).find? fun i => b[i]! == c.toNat.toUInt8 with
      | some i => some (.int .i64 i, s)
      | none => some (.int .i64 (-1), s)
    | _ => none
  else none

/-- a call of what has no body -/
def aCallX (f : FuncId) (args : List Value) (s : St) : Option (Value × St) :=
  match P.funcs[f]? with
  | some fn => bif fn.body.isNone then aExtern fn args s else none
  | none => none

def undefTree (n : Nat) : Env := T.leaf.puts 0 (List.replicate n (.tuple #[]))

def initEnv (n : Nat) (args : List Value) : Env := (undefTree n).puts 0 args

def aResults (rs : List ResultVar) (e : Env) (s : St) : Option (List Value) :=
  match rs with
  | [] => some []
  | .tmp t :: l => match T.get e t with
    | some v => (aResults l e s).map (v :: ·)
    | none => none
  | .cell a t :: l => match T.get e a with
    | some (.pointer (some ⟨i, j, none⟩)) => match s.loadVar P t i j with
      | some v => (aResults l e s).map (v :: ·)
      | none => none
    | _ => none

/-- a call of a loop's yield -/
def aYield (c : Call) (e : Env) : Option (Nat × List Value) :=
  match c.callee with
  | .value f => match Env.ev P e f, Env.evs P e c.args.toList with
    | some (.func (.yield l) ⟨[]⟩ ⟨[]⟩), some args => some (l, args)
    | _, _ => none
  | _ => none

/-- no deferred call, no range over a function -/
def calmO : Op → Bool
  | .defer _ => false
  | _ => true

def calmC : Code → Bool
  | .region _ ops _ => ops.toList.all fun o => calmO o.op
  | .seq x y => calmC x && calmC y
  | .cond _ x y => calmC x && calmC y
  | .block _ x => calmC x
  | .loop x => calmC x
  | .rangeFunc .. => false
  | .scope _ => false
  | _ => true

def putTmps (e : Env) : List (Tmp × Value) → Env
  | [] => e
  | p :: l => putTmps (putE e (some p.1) p.2) l

/-- the record of a range over a function, and the block of its deferred calls -/
def St.enter (s : St) (e : Env) (ps : Array Tmp) (assign body : Code) : St :=
  { h := (s.h.put s.next (some .marks)).put (s.next + 1) (some (.loop e ps assign body .ready none)), next := s.next + 2, cl := s.cl }

def oneOf : List Value → Value
  | [v] => v
  | vs => .tuple vs.toArray

/-! ## regions that draw their order -/

/-- 1: reads at most; 2: makes a new block alone; 3: all else -/
def ocls (o : Op) : Nat :=
  match o with
  | .alloc _ | .box .. | .buildSlice .. | .makeSlice .. | .makeMap .. => 2
  | .move _ | .assign _ | .pick .. | .build .. | .load .. | .nilCheck _ | .binOp .. | .unOp .. | .makeInterface .. | .makeFunc ..
  | .slice .. | .fieldAddr .. | .field .. | .indexAddr .. | .index .. | .lookup .. | .typeAssert .. | .extract .. => 1
  | .convert src dst _ => match P.underlying src, P.underlying dst with
    | some .string, some (.slice _) => 3
    | _, _ => 1
  | .call { callee := .builtin .len, .. } | .call { callee := .builtin .max, .. } | .call { callee := .builtin .min, .. } => 1
  | _ => 3

/-- an order of a region: what has an effect comes as late as it may -/
def canonGo (ops : Array Oper) : Nat → List Nat → List Nat → List Nat
  | 0, _, acc => acc.reverse
  | n + 1, left, acc =>
    let rdy := left.filter fun i => match ops[i]? with
      | some o => o.after.all fun e => !Region.binds .any e || acc.contains e.on
      | none => false
    match rdy.find? fun i => match ops[i]? with | some o => !(Nat.beq (ocls P o.op) 3) | none => false with
    | some i => canonGo ops n (left.filter (· != i)) (i :: acc)
    | none => match rdy with
      | i :: _ => canonGo ops n (left.filter (· != i)) (i :: acc)
      | [] => acc.reverse

def canon (ops : Array Oper) : List Nat := canonGo P ops ops.size (List.range ops.size) []

inductive Kind where
  | skip
  | read
  | alloc (c : Alc)
  | eff

/-- what an operation of a region came to -/
structure Ent where
  i : Nat
  m : Nat
  o : Oper
  lk : List Tmp
  e : Env
  v : Value
  k : Kind

structure Eff where
  i : Nat
  m : Nat
  now : List (Nat × Alc)
  post : St

/-- what a drawn region has done -/
structure Drn where
  tr : List Ent
  fs : List Eff
  pa : List (Nat × Alc)

/-- the temporaries that an operation looks at -/
def looks (all : List Oper) (o : Oper) : List Tmp :=
  (o.op.operands.toList.filterMap fun | .tmp t => some t | _ => none) ++
  (match o.guard with
   | some (g, _) => match all[g]? with | some x => x.dst.toList | none => []
   | none => [])

def miniOf (e : Env) : List Tmp → Env
  | [] => T.leaf
  | t :: l => match T.get e t with
    | some v => T.put (miniOf e l) t (some v)
    | none => miniOf e l

def findEnt (i : Nat) : List Ent → Option Ent
  | [] => none
  | x :: l => bif Nat.beq x.i i then some x else findEnt i l

/-- all that comes before an operation -/
def maskOf (tr : List Ent) : List Edge → Option Nat
  | [] => some 0
  | e :: l => match maskOf tr l with
    | none => none
    | some m => bif Region.binds .any e then (match findEnt e.on tr with | some x => some (m ||| x.m ||| 1 <<< e.on) | none => none) else some m

def lastOk (m : Nat) : List Eff → Bool
  | [] => true
  | f :: _ => Nat.testBit m f.i

def doneMask : List Eff → Nat
  | [] => 0
  | f :: l => f.m ||| doneMask l

/-- what waits is made -/
def Alc.late (c : Alc) (s : St) (i : Nat) : St :=
  match c.cells with
  | none => s.objAt i (.map [] 0)
  | some l => { h := s.h.put i (some (.cells { t := T.leaf.puts 0 l, n := l.length, es := 0, cls := s.next, cs := 0, wr := true })), next := s.next + 1, cl := s.cl.put s.next (some [i]) }

def addAll (base : Nat) : List (Nat × Alc) → St → St
  | [], s => s
  | (i, c) :: l, s => addAll base l (c.late s (base + i))

def sameL (f : Value → Value → Bool) : List Value → List Value → Bool
  | [], [] => true
  | x :: l, y :: m => f x y && sameL f l m
  | _, _ => false

/-- the same value: never true where it is not -/
def sameV : Nat → Value → Value → Bool
  | 0, _, _ => false
  | n + 1, v, u => match v, u with
    | .bool a, .bool b => a == b
    | .int k a, .int k' b => decide (k = k') && decide (a = b)
    | .string a, .string b => decide (a.data.toList = b.data.toList)
    | .pointer none, .pointer none => true
    | .pointer (some ⟨i, j, none⟩), .pointer (some ⟨i', j', none⟩) => Nat.beq i i' && Nat.beq j j'
    | .slice none l c, .slice none l' c' => Nat.beq l l' && Nat.beq c c'
    | .slice (some ⟨i, j, none⟩) l c, .slice (some ⟨i', j', none⟩) l' c' => Nat.beq i i' && Nat.beq j j' && (Nat.beq l l' && Nat.beq c c')
    | .map none, .map none => true
    | .map (some i), .map (some j) => Nat.beq i j
    | .nilFunc, .nilFunc => true
    | .func (.func f) a b, .func (.func f') a' b' => Nat.beq f f' && sameL (sameV n) a.toList a'.toList && sameL (sameV n) b.toList b'.toList
    | .nilIface, .nilIface => true
    | .iface t a, .iface t' b => Nat.beq t t' && sameV n a b
    | .agg a, .agg b => sameL (sameV n) a.toList b.toList
    | .tuple a, .tuple b => sameL (sameV n) a.toList b.toList
    | _, _ => false

/-- what is known of an operation ahead of the run -/
structure SEnt where
  i : Nat
  m : Nat
  o : Oper
  lk : List Tmp

def findS (i : Nat) : List SEnt → Option SEnt
  | [] => none
  | x :: l => bif Nat.beq x.i i then some x else findS i l

def maskS (tr : List SEnt) : List Edge → Option Nat
  | [] => some 0
  | e :: l => match maskS tr l with
    | none => none
    | some m => bif Region.binds .any e then (match findS e.on tr with | some x => some (m ||| x.m ||| 1 <<< e.on) | none => none) else some m

def entOkS (lk : List Tmp) (dst : Option Tmp) (m : Nat) : List SEnt → Bool
  | [] => true
  | x :: l => (match x.o.dst with | none => true | some d => !(dst == some d) && (!(lk.contains d) || Nat.testBit m x.i))
      && (match dst with | none => true | some d => !(x.lk.contains d) || Nat.testBit m x.i) && entOkS lk dst m l

def allInS (tr : List SEnt) : Nat → Bool
  | 0 => true
  | n + 1 => (findS n tr).isSome && allInS tr n

def planGo (all : List Oper) : List Nat → List SEnt → Option (List SEnt)
  | [], done => bif allInS done all.length then some [] else none
  | i :: l, done => match all[i]?, findS i done with
    | some o, none => match maskS done o.after.toList with
      | none => none
      | some m => bif entOkS (looks all o) o.dst m done then
          (match planGo all l (⟨i, m, o, looks all o⟩ :: done) with
           | some xs => some (⟨i, m, o, looks all o⟩ :: xs)
           | none => none) else none
    | _, _ => none

def recheck (done : Nat) (s : St) : List Ent → Bool
  | [] => true
  | x :: l => (match x.k with
    | .read => Nat.testBit done x.i || (match aRead P x.o x.e s with | some v => sameV 8 x.v v | none => false)
    | _ => true) && recheck done s l

/-- no operation writes what another writes; what one reads and another writes is in order -/
def entOk (lk : List Tmp) (dst : Option Tmp) (m : Nat) : List Ent → Bool
  | [] => true
  | x :: l => (match x.o.dst with | none => true | some d => !(dst == some d) && (!(lk.contains d) || Nat.testBit m x.i))
      && (match dst with | none => true | some d => !(x.lk.contains d) || Nat.testBit m x.i) && entOk lk dst m l

def allIn (tr : List Ent) : Nat → Bool
  | 0 => true
  | n + 1 => (findEnt n tr).isSome && allIn tr n

inductive Task where
  | code (c : Code) (a : Act')
  | ops (all : List Oper) (l : List Oper) (a : Act')
  | draw (all : List Oper) (base : Nat) (ord : List SEnt) (d : Drn) (a : Act')
  | call (f : FuncId) (args : List Value)
  | round (l : Nat) (args : List Value)
  | leave (fn : Func) (e : Env) (ds : List Dfr) (m : FM)
  | callD (f : FuncId) (args : List Value) (m : FM)
  | codeD (c : Code) (a : Act') (m : FM)
  | opsD (all : List Oper) (l : List Oper) (a : Act') (m : FM)

inductive Res where
  | done (o : Out) (a : Act') (s : St)
  | doneD (o : Out) (a : Act') (m : FM) (s : St)
  | ret (v : Value) (s : St)
  | raised (v : Value) (s : St)
  | retD (m : FM) (s : St)

inductive OpRes where
  | val (v : Value) (s : St)
  | raised (v : Value) (s : St)

/-- an operation that works on the world, or a call -/
def doOp (rc : FuncId → List Value → St → Option Res) (rr : Nat → List Value → St → Option Res) (o : Oper) (e : Env) (s : St) : Option OpRes :=
  match aEff P o e s with
  | some (v, s) => some (.val v s)
  | none => match o.op with
    | .call c => match aCallee P c e s with
      | some (f, args) => match aCallX P f args s with
        | some (v, s) => some (.val v s)
        | none => match rc f args s with
          | some (.ret v s) => some (.val v s)
          | some (.raised v s) => some (.raised v s)
          | _ => none
      | none => match aYield P c e with
        | some (l, args) => match rr l args s with
          | some (.ret v s) => some (.val v s)
          | _ => none
        | none => none
    | _ => none

/-- a range over a function has ended -/
def rangeEnd (a : Act') (s : St) : LoopState → Option Code → Option Res
  | .ready, none => some (.done .normal a s)
  | .done, some .ret => some (.done .ret a s)
  | .done, some (.exit i) => some (.done (.exit i) a s)
  | _, _ => none

/-- a round has ended -/
def roundEnd (l : Nat) (e : Env) (ps : Array Tmp) (assign body : Code) (s : St) : Out → Option Res
  | .normal => some (.ret (.bool true) { s with h := s.h.put l (some (.loop e ps assign body .ready none)) })
  | .ret => some (.ret (.bool false) { s with h := s.h.put l (some (.loop e ps assign body .done (some .ret))) })
  | .exit i => some (.ret (.bool false) { s with h := s.h.put l (some (.loop e ps assign body .done (some (.exit i)))) })
  | .panic _ => none

def FM.settle : FM → FM
  | .panicking _ true => .returning
  | m => m

/-- what is known of calls -/
abbrev Orc := FuncId → List Value → St → Option Res

def stepT (M : Orc) (ih : Task → St → Option Res) : Task → St → Option Res
  | .code c a, s =>
    match c with
    | .skip => some (.done .normal a s)
    | .ret => some (.done .ret a s)
    | .exit id => some (.done (.exit id) a s)
    | .seq x y => match ih (.code x a) s with
      | some (.done .normal a s) => ih (.code y a) s
      | r => r
    | .cond c x y => match Env.ev P a.t c with
      | some (.bool true) => ih (.code x a) s
      | some (.bool false) => ih (.code y a) s
      | _ => none
    | .block id x => match ih (.code x a) s with
      | some (.done (.exit j) a s) => bif Nat.beq j id then some (.done .normal a s) else some (.done (.exit j) a s)
      | r => r
    | .loop x => match ih (.code x a) s with
      | some (.done .normal a s) => ih (.code (.loop x) a) s
      | r => r
    | .rangeFunc g ps assign body =>
      bif calmC assign && calmC body then
        match Env.ev P a.t g with
        | some (.func (.func f) first cap) =>
          match ih (.call f (first.toList ++ [.func (.yield (s.next + 1)) ⟨[]⟩ ⟨[]⟩] ++ cap.toList)) (s.enter a.t ps assign body) with
          | some (.ret _ s2) => match s2.h.get (s.next + 1) with
            | some (.loop _ _ _ _ st pend) => rangeEnd { a with d := ⟨0, [], some s.next⟩ :: a.d } { s2 with h := s2.h.put (s.next + 1) none } st pend
            | _ => none
          | _ => none
        | _ => none
      else none
    | .region _ ops false => ih (.ops ops.toList ops.toList a) s
    | .region _ ops true => match planGo ops.toList (canon P ops) [] with
      | some xs => ih (.draw ops.toList s.next xs ⟨[], [], []⟩ a) (s.up ops.size)
      | none => none
    | _ => none
  | .ops _ [] a, s => some (.done .normal a s)
  | .ops all (o :: l) a, s =>
    match guardOk all a.t o with
    | none => none
    | some false => ih (.ops all l (a.put o.dst (.tuple #[]))) s
    | some true =>
      match aRead P o a.t s with
      | some v => ih (.ops all l (a.put o.dst v)) s
      | none => match aAlloc P o a.t with
        | some c => ih (.ops all l (a.put o.dst (c.val s.next))) ((c.make s s.next).up 1)
        | none => match doOp P (fun f args s => ih (.call f args) s) (fun l args s => ih (.round l args) s) o a.t s with
          | some (.val v s) => ih (.ops all l (a.put o.dst v)) s
          | some (.raised v s) => some (.done (.panic v) a s)
          | none => match o.op with
            | .defer c => match c.callee with
              | .value _ => match aCallee P c a.t s with
                | some (f, args) => ih (.ops all l { a.put o.dst (.tuple #[]) with d := ⟨f, args, none⟩ :: a.d }) s
                | none => none
              | _ => none
            | .panic x => match Env.ev P a.t x with
              | some (.iface t v) => some (.done (.panic (.iface t v)) a s)
              | _ => none
            | _ => none
  | .draw _all base [] d a, s => some (.done .normal a (addAll base d.pa s))
  | .draw all base (⟨i, m, o, lk⟩ :: l) d a, s =>
        match guardOk all (miniOf a.t lk) o with
        | none => none
        | some false => ih (.draw all base l { d with tr := ⟨i, m, o, lk, miniOf a.t lk, .tuple #[], .skip⟩ :: d.tr } (a.put o.dst (.tuple #[]))) s
        | some true =>
          match aRead P o (miniOf a.t lk) s with
          | some v => bif lastOk m d.fs then ih (.draw all base l { d with tr := ⟨i, m, o, lk, miniOf a.t lk, v, .read⟩ :: d.tr } (a.put o.dst v)) s else none
          | none => match aAlloc P o (miniOf a.t lk) with
            | some c => ih (.draw all base l { d with tr := ⟨i, m, o, lk, miniOf a.t lk, c.val (base + i), .alloc c⟩ :: d.tr, pa := (i, c) :: d.pa } (a.put o.dst (c.val (base + i)))) s
            | none =>
              bif lastOk m d.fs then
                match doOp P (fun f args s => ih (.call f args) s) (fun _ _ _ => none) o (miniOf a.t lk) (addAll base (d.pa.filter fun p => Nat.testBit m p.1) s) with
                | some (.val v s2) =>
                  bif recheck P (m ||| doneMask d.fs) s2 d.tr then
                    ih (.draw all base l
                      { tr := ⟨i, m, o, lk, miniOf a.t lk, v, .eff⟩ :: d.tr,
                        fs := ⟨i, m, d.pa.filter fun p => Nat.testBit m p.1, s2⟩ :: d.fs,
                        pa := d.pa.filter fun p => !Nat.testBit m p.1 } (a.put o.dst v)) s2
                  else none
                | _ => none
              else none
  | .call f args, s =>
    match M f args s with
    | some r => some r
    | none => match P.funcs[f]? with
    | none => none
    | some fn => match fn.body with
      | none => none
      | some c =>
        bif fn.name == "runtime.NumGoroutine" then none else
        match ih (.code c ⟨initEnv fn.ntmps args, []⟩) s with
        | some (.done (.panic v) a s) => ih (.leave fn a.t a.d (.panicking v false)) s
        | some (.done .normal a s) => ih (.leave fn a.t a.d .returning) s
        | some (.done .ret a s) => ih (.leave fn a.t a.d .returning) s
        | _ => none
  | .round l args, s =>
    match s.h.get l with
    | some (.loop e ps assign body .ready none) =>
      bif calmC assign && calmC body && Nat.beq args.length ps.size then
        match ih (.code assign ⟨putTmps e (ps.toList.zip args), []⟩) s with
        | some (.done .normal a1 s1) => match s1.h.get l with
          | some (.loop e1 ps1 as1 b1 .ready none) =>
            match ih (.code body a1) { s1 with h := s1.h.put l (some (.loop e1 ps1 as1 b1 .busy none)) } with
            | some (.done o _ s2) => match s2.h.get l with
              | some (.loop e2 ps2 as2 b2 .busy none) => roundEnd l e2 ps2 as2 b2 s2 o
              | _ => none
            | _ => none
          | _ => none
        | _ => none
      else none
    | _ => none
  | .leave fn e [] m, s =>
    match m with
    | .returning => (aResults P fn.results.toList e s).map fun vs => .ret (oneOf vs) s
    | .panicking v false => some (.raised v s)
    | _ => none
  | .leave fn e (d :: ds) m, s =>
    match d.mark with
    | some i => match s.h.get i with
      | some .marks => ih (.leave fn e ds m) { s with h := s.h.put i none }
      | _ => none
    | none => match ih (.callD d.f d.args m) s with
      | some (.retD m s) => ih (.leave fn e ds m.settle) s
      | _ => none
  | .callD f args m, s =>
    match P.funcs[f]? with
    | none => none
    | some fn => match fn.body with
      | none => none
      | some c =>
        bif fn.name == "runtime.NumGoroutine" then none else
        match ih (.codeD c ⟨initEnv fn.ntmps args, []⟩ m) s with
        | some (.doneD .normal a m s) => match a.d with
          | [] => (aResults P fn.results.toList a.t s).map fun _ => .retD m s
          | _ => none
        | some (.doneD .ret a m s) => match a.d with
          | [] => (aResults P fn.results.toList a.t s).map fun _ => .retD m s
          | _ => none
        | _ => none
  | .codeD c a m, s =>
    match c with
    | .skip => some (.doneD .normal a m s)
    | .ret => some (.doneD .ret a m s)
    | .seq x y => match ih (.codeD x a m) s with
      | some (.doneD .normal a m s) => ih (.codeD y a m) s
      | r => r
    | .cond c x y => match Env.ev P a.t c with
      | some (.bool true) => ih (.codeD x a m) s
      | some (.bool false) => ih (.codeD y a m) s
      | _ => none
    | .region _ ops false => ih (.opsD ops.toList ops.toList a m) s
    | c => match ih (.code c a) s with
      | some (.done .normal a s) => some (.doneD .normal a m s)
      | some (.done .ret a s) => some (.doneD .ret a m s)
      | _ => none
  | .opsD _ [] a m, s => some (.doneD .normal a m s)
  | .opsD all (o :: l) a m, s =>
    match guardOk all a.t o with
    | none => none
    | some false => ih (.opsD all l (a.put o.dst (.tuple #[])) m) s
    | some true =>
      match aRead P o a.t s with
      | some v => ih (.opsD all l (a.put o.dst v) m) s
      | none => match aEff P o a.t s with
        | some (v, s) => ih (.opsD all l (a.put o.dst v) m) s
        | none => match o.op with
          | .call { callee := .builtin .recover, .. } => match m with
            | .panicking v false => ih (.opsD all l (a.put o.dst v) (.panicking v true)) s
            | m => ih (.opsD all l (a.put o.dst .nilIface) m) s
          | _ => none


def run (M : Orc) (n : Nat) : Task → St → Option Res := Nat.rec (fun _ _ => none) (fun _ ih => stepT P M ih) n

end
end
end Go.Ev
