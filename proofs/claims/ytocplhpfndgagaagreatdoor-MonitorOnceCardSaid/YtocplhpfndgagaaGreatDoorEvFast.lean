/- The same evaluator in small steps, cheap for the kernel, equal to the first. -/
import Derived.Test.YtocplhpfndgagaaGreatDoorEvA
import Derived.Laws.Strings
open Go
namespace Go.Ev
noncomputable section
section
variable (P : Program)
def rd_move (x : Operand) (e : Env) (_s : St) : Option Value :=
  Env.ev P e x

def rd_assign (x : Operand) (e : Env) (_s : St) : Option Value :=
  Env.ev P e x

def rd_pick (c : Operand) (a : Operand) (b : Operand) (e : Env) (_s : St) : Option Value :=
  match Env.ev P e c with
    | some (.bool true) => Env.ev P e a
    | some (.bool false) => Env.ev P e b
    | _ => none

def rd_nilCheck (x : Operand) (e : Env) (_s : St) : Option Value :=
  match Env.ev P e x with
    | some (.pointer (some a)) => some (.pointer (some a))
    | some (.iface t v) => some (.iface t v)
    | some (.func (.func f) a b) => some (.func (.func f) a b)
    | _ => none

def rd_binOp (op : BinOp) (t : TypeId) (x : Operand) (y : Operand) (e : Env) (_s : St) : Option Value :=
  match Env.ev P e x, Env.ev P e y with
    | some a, some b => aBin P op t x y a b
    | _, _ => none

def rd_unOp (op : UnOp) (x : Operand) (e : Env) (_s : St) : Option Value :=
  match op, Env.ev P e x with
    | .neg, some (.int k n) => some (.int k (k.wrap (0 - n)))
    | .not, some (.bool b) => some (.bool (!b))
    | _, _ => none

def rd_convert (src : TypeId) (dst : TypeId) (x : Operand) (e : Env) (s : St) : Option Value :=
  match P.underlying src, P.underlying dst, Env.ev P e x with
    | some (.int _), some (.int k), some (.int _ n) => some (.int k (k.wrap n))
    | some .string, some .string, some (.string b) => some (.string b)
    | some (.slice el), some .string, some x => match P.underlying el, x with
      | some (.int .u8), .slice none _ _ => some (.string .empty)
      | some (.int .u8), .slice (some ⟨i, j, none⟩) n _ => match s.loadAt i j n with
        | some l => (bytesOfCells l).map fun l => .string ⟨l.toArray⟩
        | none => none
      | _, _ => none
    | _, _, _ => none

def rd_makeInterface (t : TypeId) (x : Operand) (e : Env) (_s : St) : Option Value :=
  match P.underlying t with
    | some (.interface _) => none
    | some _ => (Env.ev P e x).map fun v => .iface t v
    | none => none

def rd_makeFunc (f : FuncId) (first : Array Operand) (captured : Array Operand) (e : Env) (_s : St) : Option Value :=
  match Env.evs P e first.toList, Env.evs P e captured.toList with
    | some a, some b => some (.func (.func f) a.toArray b.toArray)
    | _, _ => none

def rd_slice (t : TypeId) (x : Operand) (lo : Option Operand) (hi : Option Operand) (mx : Option Operand) (e : Env) (_s : St) : Option Value :=
  match Env.ev P e x, Env.evOpt P e lo, Env.evOpt P e hi, Env.evOpt P e mx with
    | some x, some lo, some hi, some mx => aSlice P t x lo hi mx
    | _, _, _, _ => none

def rd_fieldAddr (t : TypeId) (x : Operand) (f : Nat) (e : Env) (_s : St) : Option Value :=
  match P.underlying t, Env.ev P e x with
    | some (.struct fs), some (.pointer (some ⟨i, j, none⟩)) => match fs[f]? with
      | some f => match sizeOf? P f.type with
        | some (_ + 1) => some (.pointer (some ⟨i, j + f.offset, none⟩))
        | _ => none
      | none => none
    | _, _ => none

def rd_field (t : TypeId) (x : Operand) (f : Nat) (e : Env) (_s : St) : Option Value :=
  match P.underlying t, Env.ev P e x with
    | some (.struct fs), some (.agg cs) => match fs[f]? with
      | some f => partAt P f.type cs f.offset
      | none => none
    | _, _ => none

def rd_indexAddr (t : TypeId) (x : Operand) (ix : Operand) (e : Env) (_s : St) : Option Value :=
  match P.underlying t, Env.ev P e x, Env.ev P e ix with
    | some (.array len el), some (.pointer (some ⟨i, j, none⟩)), some (.int _ n) =>
      if 0 ≤ n ∧ n < len then (sizeOf? P el).map fun sz => .pointer (some ⟨i, j + n.toNat * sz, none⟩) else none
    | some (.slice el), some (.slice (some ⟨i, j, none⟩) len _), some (.int _ n) =>
      if 0 ≤ n ∧ n < len then (sizeOf? P el).map fun sz => .pointer (some ⟨i, j + n.toNat * sz, none⟩) else none
    | _, _, _ => none

def rd_index (t : TypeId) (x : Operand) (ix : Operand) (e : Env) (_s : St) : Option Value :=
  match P.underlying t, Env.ev P e x, Env.ev P e ix with
    | some (.array len el), some (.agg cs), some (.int _ n) =>
      if 0 ≤ n ∧ n < len then (match sizeOf? P el with | some sz => partAt P el cs (n.toNat * sz) | none => none) else none
    | some .string, some (.string b), some (.int _ n) => match (if 0 ≤ n then b[n.toNat]? else none) with
      | some c => some (.int .u8 c.toNat)
      | none => none
    | _, _, _ => none

def rd_extract (t : Operand) (ix : Nat) (e : Env) (_s : St) : Option Value :=
  match Env.ev P e t with
    | some (.tuple vs) => vs[ix]?
    | _ => none

def rd_build (t : TypeId) (parts : Array (Nat × Operand)) (e : Env) (_s : St) : Option Value :=
  match P.underlying t, zero? P t, Env.evParts P e parts.toList with
    | some (.struct fields), some z, some ps =>
      match fields.toList.mapM (fun f : Field => (sizeOf? P f.type).map fun n => (f.offset, n)) with
      | some places => (Instr.fill (fun i => places[i]?) z.cells ps).map .agg
      | none => none
    | some (.array _ el), some z, some ps => match sizeOf? P el with
      | some sz => (Instr.fill (fun i => some (i * sz, sz)) z.cells ps).map .agg
      | none => none
    | _, _, _ => none

def rd_typeAssert (x : Operand) (asserted : TypeId) (ok : Bool) (e : Env) (_s : St) : Option Value :=
  match P.underlying asserted, Env.ev P e x with
    | some (.interface _), _ => none
    | some _, some (.iface t v) => if t = asserted then some (bif ok then .tuple #[v, .bool true] else v) else bif ok then (zero? P asserted).map fun z => .tuple #[z, .bool false] else none
    | some _, some .nilIface => bif ok then (zero? P asserted).map fun z => .tuple #[z, .bool false] else none
    | _, _ => none

def rd_load (t : TypeId) (a : Operand) (e : Env) (s : St) : Option Value :=
  match Env.ev P e a with
    | some (.pointer (some ⟨i, j, none⟩)) => s.loadVar P t i j
    | _ => none

def rd_lookup (t : TypeId) (x : Operand) (ix : Operand) (ok : Bool) (e : Env) (s : St) : Option Value :=
  match P.underlying t, Env.ev P e x, Env.ev P e ix with
    | some (.map key el), some (.map r), some k =>
      match (match r with | none => some [] | some r => match s.h.get r with | some (.map es _) => some es | _ => none) with
      | some es => bif aKey P 10000 key k then (match aFind P key k es 0, zero? P el with
        | some (some (_, v)), _ => some (bif ok then .tuple #[v, .bool true] else v)
        | some none, some z => some (bif ok then .tuple #[z, .bool false] else z)
        | _, _ => none) else none
      | none => none
    | _, _, _ => none

def rd_len (args : Array Operand) (argTypes : Array TypeId) (e : Env) (s : St) : Option Value :=
  match args.toList, argTypes.toList with
    | [x], [t] => match P.underlying t, Env.ev P e x with
      | some .string, some (.string b) => some (.int .i64 b.size)
      | some (.slice _), some (.slice _ n _) => some (.int .i64 n)
      | some (.array n _), some _ => some (.int .i64 n)
      | some (.map _ _), some (.map none) => some (.int .i64 0)
      | some (.map _ _), some (.map (some r)) => match s.h.get r with
        | some (.map es _) => some (.int .i64 es.length)
        | _ => none
      | _, _ => none
    | _, _ => none

def rd_cap (args : Array Operand) (argTypes : Array TypeId) (e : Env) (_s : St) : Option Value :=
  match args.toList, argTypes.toList with
    | [x], [t] => match P.underlying t, Env.ev P e x with
      | some (.slice _), some (.slice _ _ n) => bif Nat.ble CB n then none else some (.int .i64 n)
      | _, _ => none
    | _, _ => none

def rd_max (args : Array Operand) (e : Env) (_s : St) : Option Value :=
  match Env.evs P e args.toList with
    | some (x :: l) => fold2 max2? x l
    | _ => none

def rd_min (args : Array Operand) (e : Env) (_s : St) : Option Value :=
  match Env.evs P e args.toList with
    | some (x :: l) => fold2 min2? x l
    | _ => none

def rd_call (c : Call) (e : Env) (s : St) : Option Value :=
  match c.callee with
  | .builtin .len => rd_len P c.args c.argTypes e s
  | .builtin .cap => rd_cap P c.args c.argTypes e s
  | .builtin .max => rd_max P c.args e s
  | .builtin .min => rd_min P c.args e s
  | _ => none

def rd_op (op : Op) (e : Env) (s : St) : Option Value :=
  match op with
  | .move x => rd_move P x e s
  | .assign x => rd_assign P x e s
  | .pick c a b => rd_pick P c a b e s
  | .nilCheck x => rd_nilCheck P x e s
  | .binOp op t x y _ => rd_binOp P op t x y e s
  | .unOp op _ x => rd_unOp P op x e s
  | .convert src dst x => rd_convert P src dst x e s
  | .makeInterface t x => rd_makeInterface P t x e s
  | .makeFunc (.func f) first captured => rd_makeFunc P f first captured e s
  | .slice t x lo hi mx => rd_slice P t x lo hi mx e s
  | .fieldAddr t x f => rd_fieldAddr P t x f e s
  | .field t x f => rd_field P t x f e s
  | .indexAddr t x ix => rd_indexAddr P t x ix e s
  | .index t x ix => rd_index P t x ix e s
  | .extract t ix => rd_extract P t ix e s
  | .build t parts => rd_build P t parts e s
  | .typeAssert x _ asserted ok => rd_typeAssert P x asserted ok e s
  | .load t a => rd_load P t a e s
  | .lookup t x ix ok => rd_lookup P t x ix ok e s
  | .call c => rd_call P c e s
  | _ => none

def al_alloc (t : TypeId) (_e : Env) : Option Alc :=
  match zero? P t with
    | some z => some ⟨some z.cells.toList, none⟩
    | none => none

def al_box (x : Operand) (e : Env) : Option Alc :=
  match Env.ev P e x with
    | some v => some ⟨some v.cells.toList, none⟩
    | none => none

def al_buildSlice (t : TypeId) (len : Nat) (parts : Array (Nat × Operand)) (e : Env) : Option Alc :=
  match P.underlying t, Env.evParts P e parts.toList with
    | some (.slice el), some ps => match sizeOf? P el, zero? P el with
      | some sz, some z =>
        bif Nat.ble (len * sz) 65536 && Nat.beq z.cells.size sz && Nat.ble len 65536 then
        match Instr.fill (fun i => some (i * sz, sz)) (zerosOf z.cells.toList len).toArray ps with
        | some cs => some ⟨some cs.toList, some (len, len)⟩
        | none => none
        else none
      | _, _ => none
    | _, _ => none

def al_makeSlice (t : TypeId) (l : Operand) (c : Operand) (e : Env) : Option Alc :=
  match P.underlying t, Env.ev P e l, Env.ev P e c with
    | some (.slice el), some (.int _ l), some (.int _ c) => match P.info? el, zero? P el with
      | some inf, some z => if 0 ≤ l ∧ l ≤ c ∧ c ≤ 16777216 ∧ inf.bytes ≤ 65536 ∧ z.cells.size = inf.size then some ⟨some (zerosOf z.cells.toList c.toNat), some (l.toNat, c.toNat)⟩
        else none
      | _, _ => none
    | _, _, _ => none

def al_makeMap (t : TypeId) (r : Option Operand) (e : Env) : Option Alc :=
  match P.underlying t, Env.evOpt P e r with
    | some (.map _ _), some none => some ⟨none, none⟩
    | some (.map _ _), some (some (.int _ _)) => some ⟨none, none⟩
    | _, _ => none

def al_op (op : Op) (e : Env) : Option Alc :=
  match op with
  | .alloc t => al_alloc P t e
  | .box _ x => al_box P x e
  | .buildSlice t len parts => al_buildSlice P t len parts e
  | .makeSlice t l c => al_makeSlice P t l c e
  | .makeMap t r => al_makeMap P t r e
  | _ => none

def ef_range (t : TypeId) (x : Operand) (e : Env) (s : St) : Option (Value × St) :=
  match P.underlying t, Env.ev P e x with
    | some .string, some (.string b) => some (.pointer (some ⟨s.next, 0, none⟩), (s.objAt s.next (.iter b 0)).up 1)
    | _, _ => none

def ef_next (it : Operand) (e : Env) (s : St) : Option (Value × St) :=
  match Env.ev P e it with
    | some (.pointer (some ⟨i, 0, none⟩)) => match s.h.get i with
      | some (.iter b pos) =>
        bif Nat.ble b.size pos then some (.tuple #[.bool false], s) else
        match Utf8.decode b pos with
        | (c, width) => some (.tuple #[.bool true, .int .i64 pos, .int .i32 c], { s with h := s.h.put i (some (.iter b (pos + width))) })
      | _ => none
    | _ => none

def ef_store (t : TypeId) (a : Operand) (x : Operand) (e : Env) (s : St) : Option (Value × St) :=
  match Env.ev P e a, Env.ev P e x with
    | some (.pointer (some ⟨i, j, none⟩)), some v => (s.storeVar P t i j v).map fun s => (.tuple #[], s)
    | _, _ => none

def ef_mapUpdate (t : TypeId) (m : Operand) (k : Operand) (x : Operand) (e : Env) (s : St) : Option (Value × St) :=
  match P.underlying t, Env.ev P e m, Env.ev P e k, Env.ev P e x with
    | some (.map key _), some (.map (some r)), some k, some v => match s.h.get r with
      | some (.map es clock) => bif !(aKey P 10000 key k) then none else match aFind P key k es 0 with
        | some (some (i, _)) => match es[i]? with
          | some e => bif valEq 8 k e.key then some (.tuple #[], { s with h := s.h.put r (some (.map (es.modify i fun e => { e with val := v }) clock)) }) else none
          | none => none
        | some none => some (.tuple #[], { s with h := s.h.put r (some (.map (es ++ [{ key := k, val := v, born := clock }]) (clock + 1))) })
        | none => none
      | _ => none
    | _, _, _, _ => none

def ef_insert (t : TypeId) (m : Operand) (k : Operand) (x : Operand) (e : Env) (s : St) : Option (Value × St) :=
  match P.underlying t, Env.ev P e m, Env.ev P e k, Env.ev P e x with
    | some (.map key _), some (.map (some r)), some k, some v => match s.h.get r with
      | some (.map es clock) => bif !(aKey P 10000 key k) then none else match aFind P key k es 0 with
        | some (some (i, _)) => match es[i]? with
          | some e => bif valEq 8 k e.key then some (.tuple #[], { s with h := s.h.put r (some (.map (es.modify i fun e => { e with val := v }) clock)) }) else none
          | none => none
        | some none => some (.tuple #[], { s with h := s.h.put r (some (.map (es ++ [{ key := k, val := v, born := clock }]) (clock + 1))) })
        | none => none
      | _ => none
    | _, _, _, _ => none

def ef_append (args : Array Operand) (argTypes : Array TypeId) (e : Env) (s : St) : Option (Value × St) :=
  match Env.evs P e args.toList, argTypes.toList with
    | some [x, y], [t, _] => match P.underlying t with
      | some (.slice el) => match aAppended P s el argTypes y with
        | some (new, n) => aAppend P s el x new n
        | none => none
      | _ => none
    | _, _ => none

def ef_delete (args : Array Operand) (argTypes : Array TypeId) (e : Env) (s : St) : Option (Value × St) :=
  match Env.evs P e args.toList, argTypes.toList with
    | some [m, k], t :: _ => match P.underlying t, m with
      | some (.map key _), .map none => bif aKey P 10000 key k then some (.tuple #[], s) else none
      | some (.map key _), .map (some r) => match s.h.get r with
        | some (.map es clock) => bif !(aKey P 10000 key k) then none else match aFind P key k es 0 with
          | some (some (i, _)) => some (.tuple #[], { s with h := s.h.put r (some (.map (es.eraseIdx i) clock)) })
          | some none => some (.tuple #[], s)
          | none => none
        | _ => none
      | _, _ => none
    | _, _ => none

def ef_clear (args : Array Operand) (argTypes : Array TypeId) (e : Env) (s : St) : Option (Value × St) :=
  match Env.evs P e args.toList, argTypes.toList with
    | some [x], t :: _ => match P.underlying t, x with
      | some (.slice el), .slice (some ⟨i, j, none⟩) n _ => match zero? P el with
        | some z => (s.storeAt i j (zerosOf z.cells.toList n)).map fun s => (.tuple #[], s)
        | none => none
      | some (.slice _), .slice none _ _ => some (.tuple #[], s)
      | _, _ => none
    | _, _ => none

def ef_copy (args : Array Operand) (argTypes : Array TypeId) (e : Env) (s : St) : Option (Value × St) :=
  match Env.evs P e args.toList, argTypes.toList with
    | some [.slice base dl _, y], t :: _ => match P.underlying t with
      | some (.slice el) => match P.info? el, lenOf? y with
        | some info, some m =>
          match copySrc s info.size (Nat.min m dl) y with
          | some l => match base with
            | some ⟨i, j, none⟩ => (s.storeAt i j l).map fun s => (.int .i64 (Nat.min m dl : Nat), s)
            | none => some (.int .i64 (Nat.min m dl : Nat), s)
            | _ => none
          | none => none
        | _, _ => none
      | _ => none
    | _, _ => none

def ef_convert (src : TypeId) (dst : TypeId) (x : Operand) (e : Env) (s : St) : Option (Value × St) :=
  match P.underlying src, P.underlying dst, Env.ev P e x with
    | some .string, some (.slice el), some (.string b) => match P.underlying el with
      | some (.int .u8) => some (.slice (some ⟨s.next, 0, none⟩) b.size CB, (s.newAt s.next (T.leaf.puts 0 (b.data.toList.map fun c => Value.int .u8 c.toNat)) b.size 1).up 1)
      | _ => none
    | _, _, _ => none

def ef_call (c : Call) (e : Env) (s : St) : Option (Value × St) :=
  match c.callee with
  | .builtin .append => ef_append P c.args c.argTypes e s
  | .builtin .delete => ef_delete P c.args c.argTypes e s
  | .builtin .clear => ef_clear P c.args c.argTypes e s
  | .builtin .copy => ef_copy P c.args c.argTypes e s
  | _ => none

def ef_op (op : Op) (e : Env) (s : St) : Option (Value × St) :=
  match op with
  | .range t x => ef_range P t x e s
  | .next it true => ef_next P it e s
  | .store t a x => ef_store P t a x e s
  | .mapUpdate t m k x => ef_mapUpdate P t m k x e s
  | .insert t m k x => ef_insert P t m k x e s
  | .convert src dst x => ef_convert P src dst x e s
  | .call c => ef_call P c e s
  | _ => none

theorem rd_old (o : Oper) (e : Env) (s : St) : rd_op P o.op e s = aRead P o e s := by
  unfold aRead
  obtain ⟨dst, op, ty, pos, after, guard⟩ := o
  cases op with
  | call c => obtain ⟨cal, args, at'⟩ := c; cases cal with
    | builtin b => cases b <;> rfl
    | _ => rfl
  | makeFunc fn _ _ => cases fn <;> rfl
  | _ => rfl

theorem al_old (o : Oper) (e : Env) : al_op P o.op e = aAlloc P o e := by
  unfold aAlloc
  obtain ⟨dst, op, ty, pos, after, guard⟩ := o
  cases op <;> rfl

theorem ef_old (o : Oper) (e : Env) (s : St) : ef_op P o.op e s = aEff P o e s := by
  unfold aEff
  obtain ⟨dst, op, ty, pos, after, guard⟩ := o
  cases op with
  | call c => obtain ⟨cal, args, at'⟩ := c; cases cal with
    | builtin b => cases b <;> rfl
    | _ => rfl
  | next it b => cases b <;> rfl
  | _ => rfl

section
variable (M : Orc) (ih : Task → St → Option Res)

def fCall3 : Option Res → Option OpRes
  | some (.ret v s) => some (.val v s)
  | some (.raised v s) => some (.raised v s)
  | _ => none

def fCall2 (f : FuncId) (args : List Value) (s : St) : Option (Value × St) → Option OpRes
  | some (v, s) => some (.val v s)
  | none => fCall3 (ih (.call f args) s)

def fYield2 : Option Res → Option OpRes
  | some (.ret v s) => some (.val v s)
  | _ => none

def fYield (rr : Nat → List Value → St → Option Res) (s : St) : Option (Nat × List Value) → Option OpRes
  | some (l, args) => fYield2 (rr l args s)
  | none => none

def fCall1 (rr : Nat → List Value → St → Option Res) (c : Call) (e : Env) (s : St) : Option (FuncId × List Value) → Option OpRes
  | some (f, args) => fCall2 ih f args s (aCallX P f args s)
  | none => fYield rr s (aYield P c e)

def fDo2 (rr : Nat → List Value → St → Option Res) (op : Op) (e : Env) (s : St) : Option OpRes :=
  match op with
  | .call c => fCall1 P ih rr c e s (aCallee P c e s)
  | _ => none

def fDo1 (rr : Nat → List Value → St → Option Res) (op : Op) (e : Env) (s : St) : Option (Value × St) → Option OpRes
  | some (v, s) => some (.val v s)
  | none => fDo2 P ih rr op e s

def fDo (rr : Nat → List Value → St → Option Res) (op : Op) (e : Env) (s : St) : Option OpRes := fDo1 P ih rr op e s (ef_op P op e s)

/-- the rounds of a range over a function -/
def fRnd (l : Nat) (args : List Value) (s : St) : Option Res := ih (.round l args) s

def fNone (_ : Nat) (_ : List Value) (_ : St) : Option Res := none

/-- a range over a function -/
def fRange (a : Act') (s : St) (g : Operand) (ps : Array Tmp) (assign body : Code) : Option Res :=
  bif calmC assign && calmC body then
    match Env.ev P a.t g with
    | some (.func (.func f) first cap) =>
      match ih (.call f (first.toList ++ [.func (.yield (s.next + 1)) ⟨[]⟩ ⟨[]⟩] ++ cap.toList)) (s.enter a.t ps assign body) with
      | some (.ret _ s2) => match s2.h.get (s.next + 1) with
        | some (.loop _ _ _ _ st pend) => rangeEnd { a with d := ⟨0, [], some s.next⟩ :: a.d } { s2 with h := s2.h.put (s.next + 1) none } st pend
        | _ => none
      | _ => none
    | _ => none
  else none

def fLast2 (all : List Oper) (o : Oper) (l : List Oper) (a : Act') (s : St) : Option (FuncId × List Value) → Option Res
  | some (f, args) => ih (.ops all l { a.put o.dst (.tuple #[]) with d := ⟨f, args, none⟩ :: a.d }) s
  | none => none

def fLast3 (a : Act') (s : St) : Option Value → Option Res
  | some (.iface t v) => some (.done (.panic (.iface t v)) a s)
  | _ => none

def fLast1 (all : List Oper) (o : Oper) (l : List Oper) (a : Act') (s : St) (c : Call) : Callee → Option Res
  | .value _ => fLast2 ih all o l a s (aCallee P c a.t s)
  | _ => none

def fLast (all : List Oper) (o : Oper) (l : List Oper) (a : Act') (s : St) : Op → Option Res
  | .defer c => fLast1 P ih all o l a s c c.callee
  | .panic x => fLast3 a s (Env.ev P a.t x)
  | _ => none

def fOps4 (all : List Oper) (o : Oper) (l : List Oper) (a : Act') (s : St) : Option OpRes → Option Res
  | some (.val v s) => ih (.ops all l (a.put o.dst v)) s
  | some (.raised v s) => some (.done (.panic v) a s)
  | none => fLast P ih all o l a s o.op

def fOps3 (all : List Oper) (o : Oper) (l : List Oper) (a : Act') (s : St) : Option Alc → Option Res
  | some c => ih (.ops all l (a.put o.dst (c.val s.next))) ((c.make s s.next).up 1)
  | none => fOps4 P ih all o l a s (fDo P ih (fRnd ih) o.op a.t s)

def fOps2 (all : List Oper) (o : Oper) (l : List Oper) (a : Act') (s : St) : Option Value → Option Res
  | some v => ih (.ops all l (a.put o.dst v)) s
  | none => fOps3 P ih all o l a s (al_op P o.op a.t)

def fOps1 (all : List Oper) (o : Oper) (l : List Oper) (a : Act') (s : St) : Option Bool → Option Res
  | none => none
  | some false => ih (.ops all l (a.put o.dst (.tuple #[]))) s
  | some true => fOps2 P ih all o l a s (rd_op P o.op a.t s)

def fOps (all : List Oper) (a : Act') (s : St) : List Oper → Option Res
  | [] => some (.done .normal a s)
  | o :: l => fOps1 P ih all o l a s (guardOk all a.t o)

def fDraw5 (all : List Oper) (base : Nat) (l : List SEnt) (d : Drn) (a : Act') (i m : Nat) (o : Oper) (lk : List Tmp) (e : Env) (v : Value) (s2 : St) : Bool → Option Res
  | true => ih (.draw all base l
      { tr := ⟨i, m, o, lk, e, v, .eff⟩ :: d.tr,
        fs := ⟨i, m, d.pa.filter fun p => Nat.testBit m p.1, s2⟩ :: d.fs,
        pa := d.pa.filter fun p => !Nat.testBit m p.1 } (a.put o.dst v)) s2
  | false => none

def fDraw4 (all : List Oper) (base : Nat) (l : List SEnt) (d : Drn) (a : Act') (i m : Nat) (o : Oper) (lk : List Tmp) (e : Env) : Option OpRes → Option Res
  | some (.val v s2) => fDraw5 ih all base l d a i m o lk e v s2 (recheck P (m ||| doneMask d.fs) s2 d.tr)
  | _ => none

def fDraw3 (all : List Oper) (base : Nat) (l : List SEnt) (d : Drn) (a : Act') (s : St) (i m : Nat) (o : Oper) (lk : List Tmp) (e : Env) : Option Alc → Option Res
  | some c => ih (.draw all base l { d with tr := ⟨i, m, o, lk, e, c.val (base + i), .alloc c⟩ :: d.tr, pa := (i, c) :: d.pa } (a.put o.dst (c.val (base + i)))) s
  | none => bif lastOk m d.fs then fDraw4 P ih all base l d a i m o lk e (fDo P ih fNone o.op e (addAll base (d.pa.filter fun p => Nat.testBit m p.1) s)) else none

def fDraw2 (all : List Oper) (base : Nat) (l : List SEnt) (d : Drn) (a : Act') (s : St) (i m : Nat) (o : Oper) (lk : List Tmp) (e : Env) : Option Value → Option Res
  | some v => bif lastOk m d.fs then ih (.draw all base l { d with tr := ⟨i, m, o, lk, e, v, .read⟩ :: d.tr } (a.put o.dst v)) s else none
  | none => fDraw3 P ih all base l d a s i m o lk e (al_op P o.op e)

def fDraw1 (all : List Oper) (base : Nat) (l : List SEnt) (d : Drn) (a : Act') (s : St) (i m : Nat) (o : Oper) (lk : List Tmp) (e : Env) : Option Bool → Option Res
  | none => none
  | some false => ih (.draw all base l { d with tr := ⟨i, m, o, lk, e, .tuple #[], .skip⟩ :: d.tr } (a.put o.dst (.tuple #[]))) s
  | some true => fDraw2 P ih all base l d a s i m o lk e (rd_op P o.op e s)

def fDraw (all : List Oper) (base : Nat) (d : Drn) (a : Act') (s : St) : List SEnt → Option Res
  | [] => some (.done .normal a (addAll base d.pa s))
  | ⟨i, m, o, lk⟩ :: l => fDraw1 P ih all base l d a s i m o lk (miniOf a.t lk) (guardOk all (miniOf a.t lk) o)

def fPlan (ops : Array Oper) (a : Act') (s : St) : Option (List SEnt) → Option Res
  | some xs => ih (.draw ops.toList s.next xs ⟨[], [], []⟩ a) (s.up ops.size)
  | none => none

def fSeq (y : Code) : Option Res → Option Res
  | some (.done .normal a s) => ih (.code y a) s
  | r => r

def fCond (x y : Code) (a : Act') (s : St) : Option Value → Option Res
  | some (.bool true) => ih (.code x a) s
  | some (.bool false) => ih (.code y a) s
  | _ => none

def fBlock (id : Nat) : Option Res → Option Res
  | some (.done (.exit j) a s) => bif Nat.beq j id then some (.done .normal a s) else some (.done (.exit j) a s)
  | r => r

def fLoop (x : Code) : Option Res → Option Res
  | some (.done .normal a s) => ih (.code (.loop x) a) s
  | r => r

def fRegion (ops : Array Oper) (a : Act') (s : St) : Bool → Option Res
  | false => ih (.ops ops.toList ops.toList a) s
  | true => fPlan ih ops a s (planGo ops.toList (canon P ops) [])

def fCode (a : Act') (s : St) : Code → Option Res
  | .skip => some (.done .normal a s)
  | .ret => some (.done .ret a s)
  | .exit id => some (.done (.exit id) a s)
  | .seq x y => fSeq ih y (ih (.code x a) s)
  | .cond c x y => fCond ih x y a s (Env.ev P a.t c)
  | .block id x => fBlock id (ih (.code x a) s)
  | .loop x => fLoop ih x (ih (.code x a) s)
  | .region _ ops b => fRegion P ih ops a s b
  | .rangeFunc g ps assign body => fRange P ih a s g ps assign body
  | _ => none

def fBody3 (fn : Func) : Option Res → Option Res
  | some (.done (.panic v) a s) => ih (.leave fn a.t a.d (.panicking v false)) s
  | some (.done .normal a s) => ih (.leave fn a.t a.d .returning) s
  | some (.done .ret a s) => ih (.leave fn a.t a.d .returning) s
  | _ => none

def fBody2 (fn : Func) (args : List Value) (s : St) : Option Code → Option Res
  | none => none
  | some c => bif fn.name == "runtime.NumGoroutine" then none else fBody3 ih fn (ih (.code c ⟨initEnv fn.ntmps args, []⟩) s)

def fBody (args : List Value) (s : St) : Option Func → Option Res
  | none => none
  | some fn => fBody2 ih fn args s fn.body

def fCall (f : FuncId) (args : List Value) (s : St) : Option Res → Option Res
  | some r => some r
  | none => fBody ih args s P.funcs[f]?

/-- one step, in small pieces -/
def fstep (t : Task) (s : St) : Option Res :=
  match t with
  | .code c a => fCode P ih a s c
  | .ops all l a => fOps P ih all a s l
  | .draw all base l d a => fDraw P ih all base d a s l
  | .call f args => fCall P ih f args s (M f args s)
  | t => stepT P M ih t s

theorem fDo_old (rr : Nat → List Value → St → Option Res) (o : Oper) (e : Env) (s : St) : fDo P ih rr o.op e s = doOp P (fun f args s => ih (.call f args) s) rr o e s := by
  unfold fDo doOp
  rw [ef_old]
  cases aEff P o e s with
  | some p => rfl
  | none =>
    simp only [fDo1]
    cases o.op <;> simp only [fDo2]
    rename_i c
    cases aCallee P c e s with
    | none =>
      simp only [fCall1]
      cases aYield P c e with
      | none => rfl
      | some p =>
        obtain ⟨l, args⟩ := p
        simp only [fYield]
        cases rr l args s with
        | none => rfl
        | some r => cases r <;> rfl
    | some p =>
      obtain ⟨f, args⟩ := p
      simp only [fCall1]
      cases aCallX P f args s with
      | some q => rfl
      | none =>
        simp only [fCall2]
        cases ih (.call f args) s with
        | none => rfl
        | some r => cases r <;> rfl

theorem fstep_old (t : Task) (s : St) : fstep P M ih t s = stepT P M ih t s := by
  cases t with
  | code c a =>
    cases c with
    | seq x y => simp only [fstep, fCode, stepT]; cases ih (.code x a) s with
      | none => rfl
      | some r => cases r with
        | done o a s => cases o <;> rfl
        | _ => rfl
    | cond c x y => simp only [fstep, fCode, stepT]; cases Env.ev P a.t c with
      | none => rfl
      | some v => cases v with
        | bool b => cases b <;> rfl
        | _ => rfl
    | block id x => simp only [fstep, fCode, stepT]; cases ih (.code x a) s with
      | none => rfl
      | some r => cases r with
        | done o a s => cases o <;> rfl
        | _ => rfl
    | loop x => simp only [fstep, fCode, stepT]; cases ih (.code x a) s with
      | none => rfl
      | some r => cases r with
        | done o a s => cases o <;> rfl
        | _ => rfl
    | region i ops b => cases b with
      | false => rfl
      | true => simp only [fstep, fCode, fRegion, stepT]; cases planGo ops.toList (canon P ops) [] <;> rfl
    | _ => rfl
  | ops all l a =>
    cases l with
    | nil => rfl
    | cons o l =>
      simp only [fstep, fOps, stepT]
      cases guardOk all a.t o with
      | none => rfl
      | some b =>
        cases b with
        | false => rfl
        | true =>
          simp only [fOps1, rd_old]
          cases aRead P o a.t s with
          | some v => rfl
          | none =>
            simp only [fOps2, al_old]
            cases aAlloc P o a.t with
            | some c => rfl
            | none =>
              simp only [fOps3, fDo_old]
              have er : fRnd ih = fun l args s => ih (.round l args) s := rfl
              rw [er]
              cases doOp P (fun f args s => ih (.call f args) s) (fun l args s => ih (.round l args) s) o a.t s with
              | some r => cases r <;> rfl
              | none =>
                simp only [fOps4]
                cases o.op <;> simp only [fLast]
                · rename_i c
                  cases c.callee <;> simp only [fLast1]
                  cases aCallee P c a.t s with
                  | none => rfl
                  | some p => rfl
                · rename_i x
                  cases Env.ev P a.t x with
                  | none => rfl
                  | some v => cases v <;> rfl
  | draw all base l d a =>
    cases l with
    | nil => rfl
    | cons x l =>
      obtain ⟨i, m, o, lk⟩ := x
      simp only [fstep, fDraw, stepT]
      cases guardOk all (miniOf a.t lk) o with
      | none => rfl
      | some b =>
        cases b with
        | false => rfl
        | true =>
          simp only [fDraw1, rd_old]
          cases aRead P o (miniOf a.t lk) s with
          | some v => rfl
          | none =>
            simp only [fDraw2, al_old]
            cases aAlloc P o (miniOf a.t lk) with
            | some c => rfl
            | none =>
              simp only [fDraw3, fDo_old]
              cases lastOk m d.fs with
              | false => rfl
              | true =>
                simp only [cond_true]
                have er : fNone = fun (_ : Nat) (_ : List Value) (_ : St) => (none : Option Res) := rfl
                rw [er]
                cases doOp P (fun f args s => ih (.call f args) s) (fun _ _ _ => none) o (miniOf a.t lk) (addAll base (d.pa.filter fun p => Nat.testBit m p.1) s) with
                | none => rfl
                | some r =>
                  cases r with
                  | raised v s2 => rfl
                  | val v s2 =>
                    simp only [fDraw4]
                    cases recheck P (m ||| doneMask d.fs) s2 d.tr <;> rfl
  | call f args =>
    simp only [fstep, stepT]
    cases M f args s with
    | some r => rfl
    | none =>
    simp only [fCall]
    cases P.funcs[f]? with
    | none => rfl
    | some fn =>
      simp only [fBody]
      cases fn.body with
      | none => rfl
      | some c =>
        simp only [fBody2]
        cases (fn.name == "runtime.NumGoroutine") with
        | true => rfl
        | false =>
          simp only [cond_false]
          cases ih (.code c ⟨initEnv fn.ntmps args, []⟩) s with
          | none => rfl
          | some r => cases r with
            | done o a s => cases o <;> rfl
            | _ => rfl
  | _ => rfl
end

def frun (M : Orc) (n : Nat) : Task → St → Option Res := Nat.rec (fun _ _ => none) (fun _ ih => fstep P M ih) n

theorem frun_old (M : Orc) (n : Nat) : frun P M n = run P M n := by
  induction n with
  | zero => rfl
  | succ n ih =>
    funext t s
    show fstep P M (frun P M n) t s = stepT P M (run P M n) t s
    rw [ih, fstep_old]

end
end
end Go.Ev
namespace Go.Ev
noncomputable section

/-! the same evaluator, cheap for the kernel: each case distinction is of closed terms -/

def toB (v : Value) : Option Bool := Value.casesOn (motive_1 := fun _ => Option Bool) v (fun b => some b) (fun _ _ => none) (fun _ _ => none) (fun _ _ _ => none) (fun _ => none) (fun _ => none) (fun _ _ _ => none) (fun _ => none) (fun _ => none) (fun _ _ _ => none) none (fun _ _ => none) none (fun _ => none) (fun _ => none)
def toI (v : Value) : Option (IntKind × Int) := Value.casesOn (motive_1 := fun _ => Option (IntKind × Int)) v (fun _ => none) (fun k n => some (k, n)) (fun _ _ => none) (fun _ _ _ => none) (fun _ => none) (fun _ => none) (fun _ _ _ => none) (fun _ => none) (fun _ => none) (fun _ _ _ => none) none (fun _ _ => none) none (fun _ => none) (fun _ => none)
def addrOf (a : Option Addr) : Option (Nat × Nat) := Option.casesOn (motive := fun _ => Option (Nat × Nat)) a none (fun x => Addr.casesOn (motive := fun _ => Option (Nat × Nat)) x (fun i j sp => Option.casesOn (motive := fun _ => Option (Nat × Nat)) sp (some (i, j)) (fun _ => none)))
def toP (v : Value) : Option (Nat × Nat) := Value.casesOn (motive_1 := fun _ => Option (Nat × Nat)) v (fun _ => none) (fun _ _ => none) (fun _ _ => none) (fun _ _ _ => none) (fun _ => none) (fun a => addrOf a) (fun _ _ _ => none) (fun _ => none) (fun _ => none) (fun _ _ _ => none) none (fun _ _ => none) none (fun _ => none) (fun _ => none)
def toSl (v : Value) : Option (Option Addr × Nat) := Value.casesOn (motive_1 := fun _ => Option (Option Addr × Nat)) v (fun _ => none) (fun _ _ => none) (fun _ _ => none) (fun _ _ _ => none) (fun _ => none) (fun _ => none) (fun a n _ => some (a, n)) (fun _ => none) (fun _ => none) (fun _ _ _ => none) none (fun _ _ => none) none (fun _ => none) (fun _ => none)
def toCells (o : AO) : Option Blk := AO.casesOn (motive := fun _ => Option Blk) o (fun b => some b) (fun _ _ => none) (fun _ _ => none) (fun _ _ _ _ _ _ => none) none
def bindO {α β : Type} (o : Option α) (f : α → Option β) : Option β := Option.casesOn (motive := fun _ => Option β) o none f

theorem toB_some {v : Value} {b : Bool} : toB v = some b ↔ v = .bool b := by
  cases v <;> simp [toB]
theorem toI_some {v : Value} {k : IntKind} {n : Int} : toI v = some (k, n) ↔ v = .int k n := by
  cases v <;> simp [toI]
theorem toP_some {v : Value} {i j : Nat} : toP v = some (i, j) ↔ v = .pointer (some ⟨i, j, none⟩) := by
  cases v <;> simp [toP]
  rename_i a
  cases a with
  | none => simp [addrOf]
  | some x => obtain ⟨b, c, sp⟩ := x; cases sp <;> simp [addrOf]

def tEv (x : Operand) : Program → Env → Option Value :=
  Operand.casesOn (motive := fun _ => Program → Env → Option Value) x (fun t _ e => T.get e t) (fun v _ _ => bif flatV 8 v then some v else none)
    (fun g P _ => bif Nat.blt g P.globals.size then some (.pointer (some ⟨g, 0, none⟩)) else none) (fun f _ _ => some (.func (.func f) #[] #[]))

theorem tEv_eq (x : Operand) (P : Program) (e : Env) : tEv x P e = Env.ev P e x := by cases x <;> rfl

def kIdx (k : IntKind) : Nat := IntKind.casesOn (motive := fun _ => Nat) k 0 1 2 3 4 5 6 7
theorem kIdx_eq {a b : IntKind} : Nat.beq (kIdx a) (kIdx b) = true ↔ a = b := by cases a <;> cases b <;> simp [kIdx]

def isI64 (k : IntKind) : Bool := IntKind.casesOn (motive := fun _ => Bool) k false false false true false false false false
def wrapI (k : IntKind) (n : Int) : Int := Int.casesOn (motive := fun _ => IntKind → Int) n (fun m k => bif Nat.ble m 9223372036854775807 && isI64 k then .ofNat m else k.wrap (.ofNat m)) (fun m k => k.wrap (.negSucc m)) k

theorem wrapI_eq (k : IntKind) (n : Int) : wrapI k n = k.wrap n := by
  cases n with
  | negSucc m => rfl
  | ofNat m =>
    show (bif Nat.ble m 9223372036854775807 && isI64 k then Int.ofNat m else k.wrap (.ofNat m)) = _
    cases h : (Nat.ble m 9223372036854775807 && isI64 k) with
    | false => rfl
    | true =>
      simp only [Bool.and_eq_true] at h
      obtain ⟨h1, h2⟩ := h
      have h1 : m ≤ 9223372036854775807 := by simpa using h1
      have : k = .i64 := by cases k <;> simp_all [isI64]
      subst this
      rw [cond_true]
      have e2 : (Int.ofNat m : Int) = (m : Int) := rfl
      have e : (m : Int) % (2 ^ IntKind.i64.bits : Int) = m := by show (m : Int) % (18446744073709551616 : Int) = m; omega
      unfold IntKind.wrap
      simp only [e2, e]
      rw [if_neg]
      have e3 : (2 ^ (IntKind.i64.bits - 1) : Int) = 9223372036854775808 := rfl
      simp only [e3, Bool.and_eq_true, decide_eq_true_eq, not_and]
      intro _; omega

def intEq (a b : Int) : Bool := Int.casesOn (motive := fun _ => Int → Bool) a (fun m b => Int.casesOn (motive := fun _ => Nat → Bool) b (fun n m => Nat.beq m n) (fun _ _ => false) m) (fun m b => Int.casesOn (motive := fun _ => Nat → Bool) b (fun _ _ => false) (fun n m => Nat.beq m n) m) b
def intLe (a b : Int) : Bool := Int.casesOn (motive := fun _ => Int → Bool) a (fun m b => Int.casesOn (motive := fun _ => Nat → Bool) b (fun n m => Nat.ble m n) (fun _ _ => false) m) (fun m b => Int.casesOn (motive := fun _ => Nat → Bool) b (fun _ _ => true) (fun n m => Nat.ble n m) m) b

theorem intEq_eq (a b : Int) : intEq a b = (a == b) := by
  cases a with
  | ofNat m => cases b with
    | ofNat n =>
      show Nat.beq m n = _
      rw [Bool.eq_iff_iff]; simp; omega
    | negSucc n => rfl
  | negSucc m => cases b with
    | ofNat n => rfl
    | negSucc n =>
      show Nat.beq m n = _
      rw [Bool.eq_iff_iff]; simp

theorem intLe_eq (a b : Int) : intLe a b = decide (a ≤ b) := by
  cases a with
  | ofNat m => cases b with
    | ofNat n =>
      show Nat.ble m n = _
      rw [Bool.eq_iff_iff]; simp
    | negSucc n => show false = _; symm; simp only [decide_eq_false_iff_not]; have : Int.negSucc n < 0 := Int.negSucc_lt_zero n; have : (0 : Int) ≤ Int.ofNat m := Int.natCast_nonneg m; omega
  | negSucc m => cases b with
    | ofNat n => show true = _; symm; simp only [decide_eq_true_eq]; have : Int.negSucc m < 0 := Int.negSucc_lt_zero m; have : (0 : Int) ≤ Int.ofNat n := Int.natCast_nonneg n; omega
    | negSucc n =>
      show Nat.ble n m = _
      rw [Bool.eq_iff_iff]; simp; omega

theorem intLt_eq (a b : Int) : (!intLe b a) = decide (a < b) := by rw [intLe_eq]; rw [Bool.eq_iff_iff]; simp

def same2 (k k' : IntKind) (v : Value) : Option Value := bif Nat.beq (kIdx k) (kIdx k') then some v else none
theorem same2_eq (k k' : IntKind) (v : Value) : same2 k k' v = if k ≠ k' then none else some v := by
  unfold same2
  cases h : Nat.beq (kIdx k) (kIdx k') with
  | true => rw [cond_true, if_neg (by simpa using kIdx_eq.1 h)]
  | false => rw [cond_false, if_pos (fun e => by rw [kIdx_eq.2 e] at h; simp at h)]

/-- two integers -/
def iBin (op : BinOp) : Program → TypeId → Operand → Operand → IntKind → Int → IntKind → Int → Option Value :=
  BinOp.casesOn (motive := fun _ => Program → TypeId → Operand → Operand → IntKind → Int → IntKind → Int → Option Value) op
    (fun _ _ _ _ k a k' b => same2 k k' (.int k (wrapI k (Int.add a b))))
    (fun _ _ _ _ k a k' b => same2 k k' (.int k (wrapI k (Int.sub a b))))
    (fun _ _ _ _ k a k' b => same2 k k' (.int k (wrapI k (Int.mul a b))))
    (fun P t x y k a k' b => aBin P .quo t x y (.int k a) (.int k' b))
    (fun P t x y k a k' b => aBin P .rem t x y (.int k a) (.int k' b))
    (fun P t x y k a k' b => aBin P .and t x y (.int k a) (.int k' b))
    (fun P t x y k a k' b => aBin P .or t x y (.int k a) (.int k' b))
    (fun P t x y k a k' b => aBin P .xor t x y (.int k a) (.int k' b))
    (fun P t x y k a k' b => aBin P .shl t x y (.int k a) (.int k' b))
    (fun P t x y k a k' b => aBin P .shr t x y (.int k a) (.int k' b))
    (fun P t x y k a k' b => aBin P .andNot t x y (.int k a) (.int k' b))
    (fun _ _ _ _ k a k' b => same2 k k' (.bool (intEq a b)))
    (fun _ _ _ _ k a k' b => same2 k k' (.bool (!intEq a b)))
    (fun _ _ _ _ k a k' b => same2 k k' (.bool (!intLe b a)))
    (fun _ _ _ _ k a k' b => same2 k k' (.bool (intLe a b)))
    (fun _ _ _ _ k a k' b => same2 k k' (.bool (!intLe a b)))
    (fun _ _ _ _ k a k' b => same2 k k' (.bool (intLe b a)))

theorem iBin_eq (op : BinOp) (P : Program) (t : TypeId) (x y : Operand) (k : IntKind) (a : Int) (k' : IntKind) (b : Int) : iBin op P t x y k a k' b = aBin P op t x y (.int k a) (.int k' b) := by
  cases op <;> first
    | rfl
    | (show same2 k k' _ = _; rw [same2_eq]; first
        | (rw [wrapI_eq]; rfl)
        | (rw [intEq_eq]; rfl)
        | (simp only [intLt_eq]; rfl)
        | (simp only [intLe_eq]; rfl)
        | (simp only [aBin, bne, intEq_eq]))

def tBin2 (op : BinOp) (t : TypeId) (x y : Operand) (P : Program) (a b : Value) : Option (IntKind × Int) → Option (IntKind × Int) → Option Value
  | some p, some q => iBin op P t x y p.1 p.2 q.1 q.2
  | _, _ => aBin P op t x y a b

def tBin (op : BinOp) (t : TypeId) (x y : Operand) (P : Program) (e : Env) : Option Value :=
  bindO (tEv x P e) fun a => bindO (tEv y P e) fun b => tBin2 op t x y P a b (toI a) (toI b)

theorem tBin_eq (op : BinOp) (t : TypeId) (x y : Operand) (P : Program) (e : Env) (s : St) : tBin op t x y P e = rd_binOp P op t x y e s := by
  unfold tBin rd_binOp
  rw [tEv_eq, tEv_eq]
  cases Env.ev P e x with
  | none => rfl
  | some a => cases Env.ev P e y with
    | none => rfl
    | some b =>
      show tBin2 op t x y P a b (toI a) (toI b) = aBin P op t x y a b
      cases ha : toI a with
      | none => rfl
      | some p => cases hb : toI b with
        | none => rfl
        | some q =>
          obtain ⟨k, n⟩ := p
          obtain ⟨k', n'⟩ := q
          rw [toI_some] at ha hb
          subst ha; subst hb
          exact iBin_eq ..

def tPick (c x y : Operand) (P : Program) (e : Env) : Option Value :=
  bindO (bindO (tEv c P e) toB) fun b => tEv (Bool.casesOn (motive := fun _ => Operand) b y x) P e

theorem tPick_eq (c x y : Operand) (P : Program) (e : Env) (s : St) : tPick c x y P e = rd_pick P c x y e s := by
  unfold tPick rd_pick
  rw [tEv_eq]
  cases Env.ev P e c with
  | none => rfl
  | some v => cases v <;> try rfl
              rename_i b; cases b <;> exact tEv_eq ..

/-- the value of one cell, or of an aggregate -/
def tLoadAt (P : Program) (t : TypeId) (s : St) (i j : Nat) : Option Bool → Option Value
  | some false => bindO (bindO (s.h.get i) toCells) fun b => b.t.get j
  | _ => s.loadVar P t i j

def tLoad (t : TypeId) (x : Operand) (P : Program) (e : Env) (s : St) : Option Value :=
  bindO (bindO (tEv x P e) toP) fun p => tLoadAt P t s p.1 p.2 (isAgg? P t)

theorem tLoad_eq (t : TypeId) (x : Operand) (P : Program) (e : Env) (s : St) : tLoad t x P e s = rd_load P t x e s := by
  unfold tLoad rd_load
  rw [tEv_eq]
  cases Env.ev P e x with
  | none => rfl
  | some v =>
    show bindO (toP v) _ = _
    cases hp : toP v with
    | none =>
      show none = _
      split
      · rename_i h; simp only [Option.some.injEq] at h; rw [toP_some.2 h] at hp; simp at hp
      · rfl
    | some p =>
      obtain ⟨i, j⟩ := p
      rw [toP_some] at hp; subst hp
      show tLoadAt P t s i j (isAgg? P t) = s.loadVar P t i j
      cases hq : isAgg? P t with
      | none => rfl
      | some b => cases b with
        | true => rfl
        | false =>
          simp only [tLoadAt, St.loadVar, hq, St.loadAt]
          cases s.h.get i with
          | none => rfl
          | some o => cases o with
            | cells b =>
              show b.t.get j = _
              simp only [T.gets]
              cases b.t.get j <;> rfl
            | _ => rfl

def fieldOff (P : Program) (t : TypeId) (f : Nat) : Option Nat :=
  match P.underlying t with
  | some (.struct fs) => match fs[f]? with
    | some f => match sizeOf? P f.type with
      | some (_ + 1) => some f.offset
      | _ => none
    | none => none
  | _ => none

def tField (t : TypeId) (x : Operand) (f : Nat) (P : Program) (e : Env) : Option Value :=
  bindO (fieldOff P t f) fun o => bindO (bindO (tEv x P e) toP) fun p => some (.pointer (some ⟨p.1, p.2 + o, none⟩))

theorem tField_eq (t : TypeId) (x : Operand) (f : Nat) (P : Program) (e : Env) (s : St) : tField t x f P e = rd_fieldAddr P t x f e s := by
  unfold tField rd_fieldAddr fieldOff
  rw [tEv_eq]
  cases Env.ev P e x with
  | none =>
    cases P.underlying t with
    | none => rfl
    | some d =>
      cases d <;> try rfl
      rename_i fs
      simp only
      cases fs[f]? with
      | none => rfl
      | some fd =>
        simp only
        cases sizeOf? P fd.type with
        | none => rfl
        | some n => cases n <;> rfl
  | some v =>
    cases hu : P.underlying t with
    | none => rfl
    | some d =>
      cases d <;> try rfl
      rename_i fs
      simp only
      cases hp : toP v with
      | none =>
        have : ∀ i j, v ≠ .pointer (some ⟨i, j, none⟩) := fun i j e => by rw [toP_some.2 e] at hp; simp at hp
        have e1 : ∀ o : Nat, (bindO (bindO (some v) toP) fun p => some (Value.pointer (some ⟨p.1, p.2 + o, none⟩))) = none := fun o => by show bindO (toP v) _ = none; rw [hp]; rfl
        cases fs[f]? with
        | none => simp only [bindO]; split <;> first | rfl | (rename_i h1 h2; exact absurd (by simpa using h2) (this _ _))
        | some fd =>
          simp only
          cases sizeOf? P fd.type with
          | none => simp only [bindO]; split <;> first | rfl | (rename_i h1 h2; exact absurd (by simpa using h2) (this _ _))
          | some n => cases n with
            | zero => simp only [bindO]; split <;> first | rfl | (rename_i h1 h2; exact absurd (by simpa using h2) (this _ _))
            | succ n =>
              show (bindO (bindO (some v) toP) fun p => some (Value.pointer (some ⟨p.1, p.2 + fd.offset, none⟩))) = _
              rw [e1]
              split <;> first | rfl | (rename_i h1 h2; exact absurd (by simpa using h2) (this _ _))
      | some p =>
        obtain ⟨i, j⟩ := p
        rw [toP_some] at hp; subst hp
        simp only
        cases fs[f]? with
        | none => rfl
        | some fd =>
          simp only
          cases sizeOf? P fd.type with
          | none => rfl
          | some n => cases n <;> rfl

end
end Go.Ev
namespace Go.Ev
noncomputable section

def dropL {α : Type} (l : List α) : Nat → List α := List.rec (motive := fun _ => Nat → List α) (fun _ => []) (fun x xs ih n => Nat.rec (motive := fun _ => List α) (x :: xs) (fun k _ => ih k) n) l
def takeL {α : Type} (l : List α) : Nat → List α := List.rec (motive := fun _ => Nat → List α) (fun _ => []) (fun x _ ih n => Nat.rec (motive := fun _ => List α) [] (fun k _ => x :: ih k) n) l
def nthL {α : Type} (l : List α) : Nat → Option α := List.rec (motive := fun _ => Nat → Option α) (fun _ => none) (fun x _ ih n => Nat.rec (motive := fun _ => Option α) (some x) (fun k _ => ih k) n) l

theorem dropL_eq {α : Type} : ∀ (l : List α) (n : Nat), dropL l n = l.drop n
  | [], n => by cases n <;> rfl
  | x :: l, 0 => rfl
  | x :: l, n + 1 => dropL_eq l n
theorem takeL_eq {α : Type} : ∀ (l : List α) (n : Nat), takeL l n = l.take n
  | [], n => by cases n <;> rfl
  | x :: l, 0 => rfl
  | x :: l, n + 1 => congrArg (x :: ·) (takeL_eq l n)
theorem nthL_eq {α : Type} : ∀ (l : List α) (n : Nat), nthL l n = l[n]?
  | [], n => by cases n <;> rfl
  | x :: l, 0 => rfl
  | x :: l, n + 1 => nthL_eq l n

def extL (s : ByteArray) (l h : Nat) : ByteArray := ⟨⟨takeL (dropL s.data.toList l) (Nat.sub h l)⟩⟩
theorem extL_eq (s : ByteArray) (l h : Nat) : extL s l h = s.extract l h := by
  apply ByteArray.ext
  apply Array.ext'
  show takeL (dropL s.data.toList l) (h - l) = _
  rw [takeL_eq, dropL_eq]
  simp [ByteArray.data_extract, Array.toList_extract, List.extract_eq_take_drop]

def toS (v : Value) : Option ByteArray := Value.casesOn (motive_1 := fun _ => Option ByteArray) v (fun _ => none) (fun _ _ => none) (fun _ _ => none) (fun _ _ _ => none) (fun s => some s) (fun _ => none) (fun _ _ _ => none) (fun _ => none) (fun _ => none) (fun _ _ _ => none) none (fun _ _ => none) none (fun _ => none) (fun _ => none)
theorem toS_some {v : Value} {s : ByteArray} : toS v = some s ↔ v = .string s := by cases v <;> simp [toS]

def isStr (P : Program) (t : TypeId) : Bool := match P.underlying t with | some .string => true | _ => false
theorem isStr_eq {P : Program} {t : TypeId} (h : isStr P t = true) : P.underlying t = some .string := by
  unfold isStr at h
  split at h
  · assumption
  · simp at h

def tSlice3 (P : Program) (t : TypeId) (x : Value) (lo hi : Option Value) : Option ByteArray → Option Value
  | some s => (aBounds s.size s.size lo hi none).map fun p => .string (extL s p.1 p.2.1)
  | none => aSlice P t x lo hi none

def tSlice2 (P : Program) (t : TypeId) (x : Value) (lo hi : Option Value) : Bool → Option Value → Option Value
  | true, none => tSlice3 P t x lo hi (toS x)
  | _, mx => aSlice P t x lo hi mx

def tSlice (t : TypeId) (x : Operand) (lo hi mx : Option Operand) (P : Program) (e : Env) : Option Value :=
  bindO (tEv x P e) fun x => bindO (Env.evOpt P e lo) fun lo => bindO (Env.evOpt P e hi) fun hi => bindO (Env.evOpt P e mx) fun mx => tSlice2 P t x lo hi (isStr P t) mx

theorem tSlice_eq (t : TypeId) (x : Operand) (lo hi mx : Option Operand) (P : Program) (e : Env) (s : St) : tSlice t x lo hi mx P e = rd_slice P t x lo hi mx e s := by
  unfold tSlice rd_slice
  rw [tEv_eq]
  cases Env.ev P e x with
  | none => rfl
  | some v =>
    cases Env.evOpt P e lo with
    | none => rfl
    | some lo =>
      cases Env.evOpt P e hi with
      | none => rfl
      | some hi =>
        cases Env.evOpt P e mx with
        | none => rfl
        | some mx =>
          show tSlice2 P t v lo hi (isStr P t) mx = aSlice P t v lo hi mx
          cases hb : isStr P t with
          | false => rfl
          | true =>
            cases mx with
            | some m => rfl
            | none =>
              show tSlice3 P t v lo hi (toS v) = _
              cases hs : toS v with
              | none => rfl
              | some b =>
                rw [toS_some] at hs; subst hs
                simp only [tSlice3, aSlice, isStr_eq hb, Option.isSome_none, Bool.false_eq_true, if_false, extL_eq]

def natOf (n : Int) : Option Nat := Int.casesOn (motive := fun _ => Option Nat) n (fun m => some m) (fun _ => none)

def tIndex3 (P : Program) (t : TypeId) (x ix : Operand) (e : Env) (s : St) : Option ByteArray → Option (IntKind × Int) → Option Value
  | some b, some p => bindO (natOf p.2) fun m => bindO (nthL b.data.toList m) fun c => some (.int .u8 (.ofNat c.toNat))
  | _, _ => rd_index P t x ix e s

def tIndex2 (P : Program) (t : TypeId) (x ix : Operand) (e : Env) (s : St) : Bool → Option Value
  | true => tIndex3 P t x ix e s (bindO (tEv x P e) toS) (bindO (tEv ix P e) toI)
  | false => rd_index P t x ix e s

def tIndex (t : TypeId) (x ix : Operand) (P : Program) (e : Env) (s : St) : Option Value := tIndex2 P t x ix e s (isStr P t)

theorem tIndex_eq (t : TypeId) (x ix : Operand) (P : Program) (e : Env) (s : St) : tIndex t x ix P e s = rd_index P t x ix e s := by
  unfold tIndex
  cases hb : isStr P t with
  | false => rfl
  | true =>
    simp only [tIndex2, tEv_eq]
    cases hx : Env.ev P e x with
    | none => rfl
    | some v =>
      show tIndex3 P t x ix e s (toS v) _ = _
      cases hs : toS v with
      | none => rfl
      | some b =>
        cases hi : Env.ev P e ix with
        | none => rfl
        | some u =>
          show tIndex3 P t x ix e s (some b) (toI u) = _
          cases hj : toI u with
          | none => rfl
          | some p =>
            obtain ⟨k, n⟩ := p
            rw [toS_some] at hs; rw [toI_some] at hj
            subst hs; subst hj
            simp only [tIndex3, rd_index, isStr_eq hb, hx, hi]
            cases n with
            | negSucc m =>
              have : ¬ (0 : Int) ≤ Int.negSucc m := by have := Int.negSucc_lt_zero m; omega
              simp only [this, if_false]; rfl
            | ofNat m =>
              have h0 : (0 : Int) ≤ Int.ofNat m := Int.natCast_nonneg m
              have h1 : (Int.ofNat m).toNat = m := rfl
              simp only [h0, if_true, h1]
              show bindO (nthL b.data.toList m) _ = _
              rw [nthL_eq]
              have h2 : b[m]? = b.data.toList[m]? := by
                by_cases hm : m < b.size
                · have hm' : m < b.data.toList.length := by simpa using hm
                  rw [List.getElem?_eq_getElem hm']
                  rw [getElem?_pos b m hm]
                  rfl
                · have hm' : ¬ m < b.data.toList.length := by simpa using hm
                  rw [List.getElem?_eq_none (by omega)]
                  rw [getElem?_neg b m hm]
              rw [h2]
              cases b.data.toList[m]? <;> rfl

def toSl3 (v : Value) : Option (Nat × Nat × Nat) := Value.casesOn (motive_1 := fun _ => Option (Nat × Nat × Nat)) v (fun _ => none) (fun _ _ => none) (fun _ _ => none) (fun _ _ _ => none) (fun _ => none) (fun _ => none) (fun a n _ => bindO (addrOf a) fun p => some (p.1, p.2, n)) (fun _ => none) (fun _ => none) (fun _ _ _ => none) none (fun _ _ => none) none (fun _ => none) (fun _ => none)
theorem toSl3_some {v : Value} {i j n : Nat} (h : toSl3 v = some (i, j, n)) : ∃ c, v = .slice (some ⟨i, j, none⟩) n c := by
  cases v <;> simp [toSl3] at h
  rename_i a m c
  cases a with
  | none => simp [addrOf, bindO] at h
  | some x =>
    obtain ⟨b, o, sp⟩ := x
    cases sp with
    | none =>
      simp only [addrOf, bindO, Option.some.injEq, Prod.mk.injEq] at h
      obtain ⟨rfl, rfl, rfl⟩ := h
      exact ⟨c, rfl⟩
    | some z => simp [addrOf, bindO] at h

def sliceSz (P : Program) (t : TypeId) : Option Nat := match P.underlying t with | some (.slice el) => sizeOf? P el | _ => none

def tAddr3 (P : Program) (t : TypeId) (x ix : Operand) (e : Env) (s : St) (sz : Nat) : Option (Nat × Nat × Nat) → Option (IntKind × Int) → Option Value
  | some b, some p => bindO (natOf p.2) fun m => bif Nat.ble (Nat.succ m) b.2.2 then some (.pointer (some ⟨b.1, Nat.add b.2.1 (Nat.mul m sz), none⟩)) else none
  | _, _ => rd_indexAddr P t x ix e s

def tAddr2 (P : Program) (t : TypeId) (x ix : Operand) (e : Env) (s : St) : Option Nat → Option Value
  | some sz => tAddr3 P t x ix e s sz (bindO (tEv x P e) toSl3) (bindO (tEv ix P e) toI)
  | none => rd_indexAddr P t x ix e s

def tAddr (t : TypeId) (x ix : Operand) (P : Program) (e : Env) (s : St) : Option Value := tAddr2 P t x ix e s (sliceSz P t)

theorem tAddr_eq (t : TypeId) (x ix : Operand) (P : Program) (e : Env) (s : St) : tAddr t x ix P e s = rd_indexAddr P t x ix e s := by
  unfold tAddr
  cases hb : sliceSz P t with
  | none => rfl
  | some sz =>
    obtain ⟨el, hu, hz⟩ : ∃ el, P.underlying t = some (.slice el) ∧ sizeOf? P el = some sz := by
      unfold sliceSz at hb
      split at hb
      · rename_i el h; exact ⟨el, h, hb⟩
      · simp at hb
    simp only [tAddr2, tEv_eq]
    cases hx : Env.ev P e x with
    | none => rfl
    | some v =>
      show tAddr3 P t x ix e s sz (toSl3 v) _ = _
      cases hs : toSl3 v with
      | none => rfl
      | some b =>
        obtain ⟨i, j, len⟩ := b
        obtain ⟨c, rfl⟩ := toSl3_some hs
        cases hi : Env.ev P e ix with
        | none => rfl
        | some u =>
          show tAddr3 P t x ix e s sz (some (i, j, len)) (toI u) = _
          cases hj : toI u with
          | none => rfl
          | some p =>
            obtain ⟨k, n⟩ := p
            rw [toI_some] at hj; subst hj
            simp only [tAddr3, rd_indexAddr, hu, hx, hi, hz]
            cases n with
            | negSucc m =>
              have : ¬ (0 : Int) ≤ Int.negSucc m := by have := Int.negSucc_lt_zero m; omega
              simp only [this, false_and, if_false]; rfl
            | ofNat m =>
              have h0 : (0 : Int) ≤ Int.ofNat m := Int.natCast_nonneg m
              have h1 : (Int.ofNat m).toNat = m := rfl
              have h2 : (Int.ofNat m : Int) = (m : Int) := rfl
              simp only [h0, true_and, h1]
              show (bif Nat.ble (m + 1) len then some (Value.pointer (some ⟨i, j + m * sz, none⟩)) else none) = _
              by_cases hm : m < len
              · have : Nat.ble (m + 1) len = true := by simp; omega
                rw [this, if_pos (by rw [h2]; omega)]; rfl
              · have : Nat.ble (m + 1) len = false := by
                  cases hq : Nat.ble (m + 1) len with
                  | false => rfl
                  | true =>
                    have : m + 1 ≤ len := by simpa using hq
                    omega
                rw [this, if_neg (by rw [h2]; omega)]; rfl

/-- the same letters -/
def sameU (l : List UInt8) : List UInt8 → Bool :=
  List.rec (motive := fun _ => List UInt8 → Bool) (fun m => List.casesOn (motive := fun _ => Bool) m true (fun _ _ => false))
    (fun x _ ih m => List.casesOn (motive := fun _ => Bool) m false (fun y m => Bool.rec (motive := fun _ => List UInt8 → Bool) (fun _ => false) ih (Nat.beq x.toNat y.toNat) m)) l

theorem sameU_eq : ∀ (l m : List UInt8), sameU l m = (l == m)
  | [], [] => rfl
  | [], _ :: _ => rfl
  | _ :: _, [] => rfl
  | x :: l, y :: m => by
    show Bool.rec (motive := fun _ => List UInt8 → Bool) (fun _ => false) (sameU l) (Nat.beq x.toNat y.toNat) m = _
    have : Nat.beq x.toNat y.toNat = (x == y) := by
      rw [Bool.eq_iff_iff]; simp [UInt8.toNat_inj]
    rw [this, List.cons_beq_cons]
    cases x == y with
    | false => rfl
    | true => rw [Bool.true_and]; exact sameU_eq l m

def sBin (op : BinOp) : Program → TypeId → Operand → Operand → ByteArray → ByteArray → Option Value :=
  BinOp.casesOn (motive := fun _ => Program → TypeId → Operand → Operand → ByteArray → ByteArray → Option Value) op
    (fun P t x y a b => aBin P .add t x y (.string a) (.string b)) (fun P t x y a b => aBin P .sub t x y (.string a) (.string b))
    (fun P t x y a b => aBin P .mul t x y (.string a) (.string b)) (fun P t x y a b => aBin P .quo t x y (.string a) (.string b))
    (fun P t x y a b => aBin P .rem t x y (.string a) (.string b)) (fun P t x y a b => aBin P .and t x y (.string a) (.string b))
    (fun P t x y a b => aBin P .or t x y (.string a) (.string b)) (fun P t x y a b => aBin P .xor t x y (.string a) (.string b))
    (fun P t x y a b => aBin P .shl t x y (.string a) (.string b)) (fun P t x y a b => aBin P .shr t x y (.string a) (.string b))
    (fun P t x y a b => aBin P .andNot t x y (.string a) (.string b))
    (fun _ _ _ _ a b => some (.bool (sameU a.data.toList b.data.toList))) (fun _ _ _ _ a b => some (.bool (!(sameU a.data.toList b.data.toList))))
    (fun P t x y a b => aBin P .lss t x y (.string a) (.string b)) (fun P t x y a b => aBin P .leq t x y (.string a) (.string b))
    (fun P t x y a b => aBin P .gtr t x y (.string a) (.string b)) (fun P t x y a b => aBin P .geq t x y (.string a) (.string b))

theorem sBin_eq (op : BinOp) (P : Program) (t : TypeId) (x y : Operand) (a b : ByteArray) : sBin op P t x y a b = aBin P op t x y (.string a) (.string b) := by
  cases op <;> first
    | rfl
    | (show some (Value.bool (sameU a.data.toList b.data.toList)) = _; rw [sameU_eq]; simp only [aBin, ByteArray.toList_eq])
    | (show some (Value.bool (!(sameU a.data.toList b.data.toList))) = _; rw [sameU_eq]; simp only [aBin, ByteArray.toList_eq])

def tBinS2 (op : BinOp) (t : TypeId) (x y : Operand) (P : Program) (a b : Value) : Option ByteArray → Option ByteArray → Option Value
  | some p, some q => sBin op P t x y p q
  | _, _ => aBin P op t x y a b

def tBinI2 (op : BinOp) (t : TypeId) (x y : Operand) (P : Program) (a b : Value) : Option (IntKind × Int) → Option (IntKind × Int) → Option Value
  | some p, some q => iBin op P t x y p.1 p.2 q.1 q.2
  | _, _ => tBinS2 op t x y P a b (toS a) (toS b)

def tBinX (op : BinOp) (t : TypeId) (x y : Operand) (P : Program) (e : Env) : Option Value :=
  bindO (tEv x P e) fun a => bindO (tEv y P e) fun b => tBinI2 op t x y P a b (toI a) (toI b)

theorem tBinX_eq (op : BinOp) (t : TypeId) (x y : Operand) (P : Program) (e : Env) (s : St) : tBinX op t x y P e = rd_binOp P op t x y e s := by
  rw [← tBin_eq]
  unfold tBinX tBin
  have key : ∀ a b : Value, tBinI2 op t x y P a b (toI a) (toI b) = tBin2 op t x y P a b (toI a) (toI b) := by
    intro a b
    have h : tBinS2 op t x y P a b (toS a) (toS b) = aBin P op t x y a b := by
      cases ha : toS a with
      | none => rfl
      | some p => cases hb : toS b with
        | none => rfl
        | some q =>
          rw [toS_some] at ha hb
          subst ha; subst hb
          exact sBin_eq ..
    cases toI a with
    | none => exact h
    | some p => cases toI b with
      | none => exact h
      | some q => rfl
  cases tEv x P e with
  | none => rfl
  | some a => cases tEv y P e with
    | none => rfl
    | some b => exact key a b

end
end Go.Ev
namespace Go.Ev
noncomputable section

abbrev Ih := Task → St → Option Res

def kVal (ih : Ih) (all l : List Oper) (o : Oper) (a : Act') (s : St) : Option Value → Option Res
  | some v => ih (.ops all l (a.put o.dst v)) s
  | none => none

def kAl (ih : Ih) (all l : List Oper) (o : Oper) (a : Act') (s : St) : Option Alc → Option Res
  | some c => ih (.ops all l (a.put o.dst (c.val s.next))) ((c.make s s.next).up 1)
  | none => none

def kEff (ih : Ih) (all l : List Oper) (o : Oper) (a : Act') : Option (Value × St) → Option Res
  | some (v, s) => ih (.ops all l (a.put o.dst v)) s
  | none => none

abbrev KOp := Program → Ih → List Oper → Oper → List Oper → Act' → St → Option Res

def kBui (_c : Call) : KOp := fun P ih all o l a s => fOps2 P ih all o l a s (rd_op P o.op a.t s)

def kCallee (c : Callee) : Call → KOp :=
  Callee.casesOn (motive := fun _ => Call → KOp) c (fun _ c P ih all o l a s => fOps4 P ih all o l a s (fCall1 P ih (fRnd ih) c a.t s (aCallee P c a.t s)))
    (fun _ _ c P ih all o l a s => fOps4 P ih all o l a s (fCall1 P ih (fRnd ih) c a.t s (aCallee P c a.t s))) (fun _ c => kBui c)

/-- an operation: one distinction -/
def tOp (op : Op) : KOp :=
  Op.casesOn (motive := fun _ => KOp) op
    (fun x P ih all o l a s => kVal ih all l o a s (tEv x P a.t))
    (fun x P ih all o l a s => kVal ih all l o a s (tEv x P a.t))
    (fun c x y P ih all o l a s => kVal ih all l o a s (tPick c x y P a.t))
    (fun t P ih all o l a s => kAl ih all l o a s (al_alloc P t a.t))
    (fun _ x P ih all o l a s => kAl ih all l o a s (al_box P x a.t))
    (fun t ps P ih all o l a s => kVal ih all l o a s (rd_build P t ps a.t s))
    (fun t n ps P ih all o l a s => kAl ih all l o a s (al_buildSlice P t n ps a.t))
    (fun t m k v P ih all o l a s => kEff ih all l o a (ef_insert P t m k v a.t s))
    (fun t x P ih all o l a s => kVal ih all l o a s (tLoad t x P a.t s))
    (fun t x v P ih all o l a s => kEff ih all l o a (ef_store P t x v a.t s))
    (fun _ _ _ _ _ _ _ _ => none)
    (fun _ _ _ _ _ _ _ _ => none)
    (fun x P ih all o l a s => kVal ih all l o a s (rd_nilCheck P x a.t s))
    (fun op t x y _ P ih all o l a s => kVal ih all l o a s (tBinX op t x y P a.t))
    (fun op _ x P ih all o l a s => kVal ih all l o a s (rd_unOp P op x a.t s))
    (fun _ _ _ P ih all o l a s => fOps2 P ih all o l a s (rd_op P o.op a.t s))
    (fun _ _ _ _ _ _ _ _ _ => none)
    (fun t x P ih all o l a s => kVal ih all l o a s (rd_makeInterface P t x a.t s))
    (fun _ _ _ P ih all o l a s => fOps2 P ih all o l a s (rd_op P o.op a.t s))
    (fun t r P ih all o l a s => kAl ih all l o a s (al_makeMap P t r a.t))
    (fun _ _ _ _ _ _ _ _ _ => none)
    (fun t n c P ih all o l a s => kAl ih all l o a s (al_makeSlice P t n c a.t))
    (fun t x lo hi mx P ih all o l a s => kVal ih all l o a s (tSlice t x lo hi mx P a.t))
    (fun t x f P ih all o l a s => kVal ih all l o a s (tField t x f P a.t))
    (fun t x f P ih all o l a s => kVal ih all l o a s (rd_field P t x f a.t s))
    (fun t x ix P ih all o l a s => kVal ih all l o a s (tAddr t x ix P a.t s))
    (fun t x ix P ih all o l a s => kVal ih all l o a s (tIndex t x ix P a.t s))
    (fun t x ix ok P ih all o l a s => kVal ih all l o a s (rd_lookup P t x ix ok a.t s))
    (fun t m k v P ih all o l a s => kEff ih all l o a (ef_mapUpdate P t m k v a.t s))
    (fun _ _ _ _ _ _ _ _ _ _ => none)
    (fun _ _ _ _ _ _ _ _ _ _ _ => none)
    (fun t x P ih all o l a s => kEff ih all l o a (ef_range P t x a.t s))
    (fun _ _ P ih all o l a s => fOps2 P ih all o l a s (rd_op P o.op a.t s))
    (fun _ _ _ _ _ _ _ _ => none)
    (fun x _ t ok P ih all o l a s => kVal ih all l o a s (rd_typeAssert P x t ok a.t s))
    (fun t ix P ih all o l a s => kVal ih all l o a s (rd_extract P t ix a.t s))
    (fun c P ih all o l a s => kCallee c.callee c P ih all o l a s)
    (fun _ _ _ _ _ _ _ _ => none)
    (fun _ P ih all o l a s => fOps2 P ih all o l a s (rd_op P o.op a.t s))
    (fun _ P ih all o l a s => fOps2 P ih all o l a s (rd_op P o.op a.t s))
    (fun _ _ _ _ _ _ _ _ _ => none)
    (fun _ _ _ _ _ _ _ _ _ _ => none)
    (fun _ _ _ _ _ _ _ _ _ => none)

variable (P : Program) (M : Orc) (ih : Ih)

theorem tOp_eq (all : List Oper) (o : Oper) (l : List Oper) (a : Act') (s : St) : tOp o.op P ih all o l a s = fOps2 P ih all o l a s (rd_op P o.op a.t s) := by
  obtain ⟨dst, op, ty, pos, after, guard⟩ := o
  have hv : ∀ (op : Op) (x : Option Value), al_op P op a.t = none → fDo P ih (fRnd ih) op a.t s = none → fLast P ih all ⟨dst, op, ty, pos, after, guard⟩ l a s op = none →
      kVal ih all l ⟨dst, op, ty, pos, after, guard⟩ a s x = fOps2 P ih all ⟨dst, op, ty, pos, after, guard⟩ l a s x := by
    intro op x h1 h2 h3
    cases x with
    | some v => rfl
    | none => simp only [kVal, fOps2, h1, fOps3, h2, fOps4, h3]
  have ha : ∀ (op : Op) (x : Option Alc), rd_op P op a.t s = none → al_op P op a.t = x → fDo P ih (fRnd ih) op a.t s = none → fLast P ih all ⟨dst, op, ty, pos, after, guard⟩ l a s op = none →
      kAl ih all l ⟨dst, op, ty, pos, after, guard⟩ a s x = fOps2 P ih all ⟨dst, op, ty, pos, after, guard⟩ l a s (rd_op P op a.t s) := by
    intro op x h0 h1 h2 h3
    rw [h0]
    cases x with
    | some v => simp only [kAl, fOps2, h1, fOps3]
    | none => simp only [kAl, fOps2, h1, fOps3, h2, fOps4, h3]
  have he : ∀ (op : Op) (x : Option (Value × St)), rd_op P op a.t s = none → al_op P op a.t = none → ef_op P op a.t s = x → fDo2 P ih (fRnd ih) op a.t s = none → fLast P ih all ⟨dst, op, ty, pos, after, guard⟩ l a s op = none →
      kEff ih all l ⟨dst, op, ty, pos, after, guard⟩ a x = fOps2 P ih all ⟨dst, op, ty, pos, after, guard⟩ l a s (rd_op P op a.t s) := by
    intro op x h0 h1 h2 h3 h4
    rw [h0]
    cases x with
    | some v => simp only [kEff, fOps2, h1, fOps3, fDo, h2, fDo1, fOps4]
    | none => simp only [kEff, fOps2, h1, fOps3, fDo, h2, fDo1, h3, fOps4, h4]
  have hn : ∀ (op : Op), rd_op P op a.t s = none → al_op P op a.t = none → fDo P ih (fRnd ih) op a.t s = none → fLast P ih all ⟨dst, op, ty, pos, after, guard⟩ l a s op = none →
      none = fOps2 P ih all ⟨dst, op, ty, pos, after, guard⟩ l a s (rd_op P op a.t s) := by
    intro op h0 h1 h2 h3
    rw [h0]
    simp only [fOps2, h1, fOps3, h2, fOps4, h3]
  cases op with
  | move x => show kVal ih all l _ a s (tEv x P a.t) = _; rw [tEv_eq]; exact hv _ _ rfl rfl rfl
  | assign x => show kVal ih all l _ a s (tEv x P a.t) = _; rw [tEv_eq]; exact hv _ _ rfl rfl rfl
  | pick c x y => show kVal ih all l _ a s (tPick c x y P a.t) = _; rw [tPick_eq c x y P a.t s]; exact hv _ _ rfl rfl rfl
  | load t x => show kVal ih all l _ a s (tLoad t x P a.t s) = _; rw [tLoad_eq]; exact hv _ _ rfl rfl rfl
  | binOp b t x y z => show kVal ih all l _ a s (tBinX b t x y P a.t) = _; rw [tBinX_eq b t x y P a.t s]; exact hv _ _ rfl rfl rfl
  | fieldAddr t x f => show kVal ih all l _ a s (tField t x f P a.t) = _; rw [tField_eq t x f P a.t s]; exact hv _ _ rfl rfl rfl
  | build t ps => exact hv (.build t ps) (rd_build P t ps a.t s) rfl rfl rfl
  | nilCheck x => exact hv (.nilCheck x) (rd_nilCheck P x a.t s) rfl rfl rfl
  | unOp b t x => exact hv (.unOp b t x) (rd_unOp P b x a.t s) rfl rfl rfl
  | makeInterface t x => exact hv (.makeInterface t x) (rd_makeInterface P t x a.t s) rfl rfl rfl
  | slice t x lo hi mx => show kVal ih all l _ a s (tSlice t x lo hi mx P a.t) = _; rw [tSlice_eq t x lo hi mx P a.t s]; exact hv _ _ rfl rfl rfl
  | field t x f => exact hv (.field t x f) (rd_field P t x f a.t s) rfl rfl rfl
  | indexAddr t x ix => show kVal ih all l _ a s (tAddr t x ix P a.t s) = _; rw [tAddr_eq]; exact hv _ _ rfl rfl rfl
  | index t x ix => show kVal ih all l _ a s (tIndex t x ix P a.t s) = _; rw [tIndex_eq]; exact hv _ _ rfl rfl rfl
  | lookup t x ix ok => exact hv (.lookup t x ix ok) (rd_lookup P t x ix ok a.t s) rfl rfl rfl
  | typeAssert x t u ok => exact hv (.typeAssert x t u ok) (rd_typeAssert P x u ok a.t s) rfl rfl rfl
  | extract t ix => exact hv (.extract t ix) (rd_extract P t ix a.t s) rfl rfl rfl
  | alloc t => exact ha (.alloc t) (al_alloc P t a.t) rfl rfl rfl rfl
  | box t x => exact ha (.box t x) (al_box P x a.t) rfl rfl rfl rfl
  | buildSlice t n ps => exact ha (.buildSlice t n ps) (al_buildSlice P t n ps a.t) rfl rfl rfl rfl
  | makeMap t r => exact ha (.makeMap t r) (al_makeMap P t r a.t) rfl rfl rfl rfl
  | makeSlice t n c => exact ha (.makeSlice t n c) (al_makeSlice P t n c a.t) rfl rfl rfl rfl
  | insert t m k v => exact he (.insert t m k v) (ef_insert P t m k v a.t s) rfl rfl rfl rfl rfl
  | store t x v => exact he (.store t x v) (ef_store P t x v a.t s) rfl rfl rfl rfl rfl
  | mapUpdate t m k v => exact he (.mapUpdate t m k v) (ef_mapUpdate P t m k v a.t s) rfl rfl rfl rfl rfl
  | range t x => exact he (.range t x) (ef_range P t x a.t s) rfl rfl rfl rfl rfl
  | call c =>
    obtain ⟨cal, args, at'⟩ := c
    cases cal with
    | builtin b => rfl
    | value f => rfl
    | invoke r n => rfl
  | convert _ _ _ => rfl
  | makeFunc _ _ _ => rfl
  | next _ _ => rfl
  | defer _ => rfl
  | panic _ => rfl
  | _ => exact hn _ rfl rfl rfl rfl

/-! ## the rest of a step -/

def tGuard (g : Option (Nat × Bool)) : List Oper → Env → Option Bool :=
  Option.casesOn (motive := fun _ => List Oper → Env → Option Bool) g (fun _ _ => some true) (fun p all e => bindO all[p.1]? fun o => Option.casesOn (motive := fun _ => Option Bool) o.dst (some false) fun d => bindO (T.get e d) fun v => Option.casesOn (motive := fun _ => Option Bool) (toB v) (some false) fun b => some (b == p.2))

def tOps1 (all : List Oper) (o : Oper) (l : List Oper) (a : Act') (s : St) : Option Bool → Option Res
  | none => none
  | some false => ih (.ops all l (a.put o.dst (.tuple #[]))) s
  | some true => tOp o.op P ih all o l a s

theorem tOps1_eq (all : List Oper) (o : Oper) (l : List Oper) (a : Act') (s : St) (g : Option Bool) : tOps1 P ih all o l a s g = fOps1 P ih all o l a s g := by
  cases g with
  | none => rfl
  | some b => cases b with
    | false => rfl
    | true => exact tOp_eq P ih all o l a s

def gOps2 (all : List Oper) (o : Oper) (l : List Oper) (a : Act') (s : St) : Option (Nat × Bool) → Option Res
  | none => tOp o.op P ih all o l a s
  | some _ => tOps1 P ih all o l a s (guardOk all a.t o)

theorem gOps2_eq (all : List Oper) (o : Oper) (l : List Oper) (a : Act') (s : St) : gOps2 P ih all o l a s o.guard = fOps1 P ih all o l a s (guardOk all a.t o) := by
  cases h : o.guard with
  | none =>
    have : guardOk all a.t o = some true := by unfold guardOk; rw [h]
    rw [this]; exact tOp_eq P ih all o l a s
  | some g => exact tOps1_eq ..

def nrm (r : Res) : Option (Act' × St) := Res.casesOn (motive := fun _ => Option (Act' × St)) r (fun o a s => Out.casesOn (motive := fun _ => Act' → St → Option (Act' × St)) o (fun a s => some (a, s)) (fun _ _ _ => none) (fun _ _ => none) (fun _ _ _ => none) a s) (fun _ _ _ _ => none) (fun _ _ => none) (fun _ _ => none) (fun _ _ => none)

theorem nrm_some {r : Res} {a : Act'} {s : St} : nrm r = some (a, s) ↔ r = .done .normal a s := by
  cases r with
  | done o a s => cases o <;> simp [nrm]
  | _ => simp [nrm]

def goOn (r : Option Res) (c : Code) : Option (Act' × St) → Option Res
  | some p => ih (.code c p.1) p.2
  | none => r

theorem goOn_seq (c : Code) (r : Option Res) : goOn ih r c (bindO r nrm) = fSeq ih c r := by
  cases r with
  | none => rfl
  | some r => cases r with
    | done o a s => cases o <;> rfl
    | _ => rfl

theorem goOn_loop (c : Code) (r : Option Res) : goOn ih r (.loop c) (bindO r nrm) = fLoop ih c r := by
  cases r with
  | none => rfl
  | some r => cases r with
    | done o a s => cases o <;> rfl
    | _ => rfl

def goOnce (ih : Ih) (c : Code) (r : Option Res) : Option Res := goOn ih r c (bindO r nrm)

def tCond2 (x y : Code) (a : Act') (s : St) : Option Bool → Option Res
  | some true => ih (.code x a) s
  | some false => ih (.code y a) s
  | none => none

theorem tCond_eq (x y : Code) (a : Act') (s : St) (v : Option Value) : tCond2 ih x y a s (bindO v toB) = fCond ih x y a s v := by
  cases v with
  | none => rfl
  | some v => cases v <;> try rfl
              rename_i b; cases b <;> rfl

abbrev KCode := Program → Ih → Act' → St → Option Res

def tCode (c : Code) : KCode :=
  Code.casesOn (motive := fun _ => KCode) c
    (fun _ _ a s => some (.done .normal a s))
    (fun _ ops b P ih a s => fRegion P ih ops a s b)
    (fun x y _ ih a s => goOnce ih y (ih (.code x a) s))
    (fun c x y P ih a s => tCond2 ih x y a s (bindO (tEv c P a.t) toB))
    (fun id x _ ih a s => fBlock id (ih (.code x a) s))
    (fun x _ ih a s => goOnce ih (.loop x) (ih (.code x a) s))
    (fun g ps as bd P ih a s => fRange P ih a s g ps as bd)
    (fun id _ _ a s => some (.done (.exit id) a s))
    (fun _ _ _ _ _ => none)
    (fun _ _ _ _ _ => none)
    (fun _ _ _ _ _ => none)
    (fun _ _ a s => some (.done .ret a s))
    (fun _ _ _ _ _ => none)

theorem tCode_eq (c : Code) (a : Act') (s : St) : tCode c P ih a s = fCode P ih a s c := by
  cases c with
  | seq x y => exact goOn_seq ..
  | loop x => exact goOn_loop ..
  | cond c x y => show tCond2 ih x y a s (bindO (tEv c P a.t) toB) = _; rw [tEv_eq]; exact tCond_eq ..
  | _ => rfl

abbrev KTask := Program → Orc → Ih → St → Option Res

def tOps (l : List Oper) : Program → Ih → List Oper → Act' → St → Option Res :=
  List.casesOn (motive := fun _ => Program → Ih → List Oper → Act' → St → Option Res) l (fun _ _ _ a s => some (.done .normal a s))
    (fun o l P ih all a s => gOps2 P ih all o l a s o.guard)

theorem tOps_eq (all l : List Oper) (a : Act') (s : St) : tOps l P ih all a s = fOps P ih all a s l := by
  cases l with
  | nil => rfl
  | cons o l => exact gOps2_eq ..

def tstep (t : Task) : KTask :=
  Task.casesOn (motive := fun _ => KTask) t
    (fun c a P _ ih s => tCode c P ih a s)
    (fun all l a P _ ih s => tOps l P ih all a s)
    (fun all base l d a P _ ih s => fDraw P ih all base d a s l)
    (fun f args P M ih s => fCall P ih f args s (M f args s))
    (fun i args P M ih s => stepT P M ih (.round i args) s)
    (fun fn e ds m P M ih s => stepT P M ih (.leave fn e ds m) s)
    (fun f args m P M ih s => stepT P M ih (.callD f args m) s)
    (fun c a m P M ih s => stepT P M ih (.codeD c a m) s)
    (fun all l a m P M ih s => stepT P M ih (.opsD all l a m) s)

theorem tstep_eq (t : Task) (s : St) : tstep t P M ih s = fstep P M ih t s := by
  cases t with
  | code c a => exact tCode_eq P ih c a s
  | ops all l a => exact tOps_eq P ih all l a s
  | _ => rfl

def trun (n : Nat) : Task → St → Option Res := Nat.rec (fun _ _ => none) (fun _ ih t s => tstep t P M ih s) n

theorem trun_eq (n : Nat) : trun P M n = frun P M n := by
  induction n with
  | zero => rfl
  | succ n ih =>
    funext t s
    show tstep t P M (trun P M n) s = fstep P M (frun P M n) t s
    rw [ih, tstep_eq]

end
end Go.Ev
