/-
  An abstract machine over the model, fifth part: its operations (I), how they are made of the model's (compI), and what they do (stepI). No program in sight. No condition.
-/
import Derived.Test.YtjpdjaglggcbkaaZam4
namespace Go.Zam

inductive Arg where
  | t (s : Nat)
  | c (x : D)
  deriving Inhabited

def Arg.ev (fr : Fr) : Arg → A
  | .t s => fr s
  | .c x => .d x

inductive I where
  | mv (x : Arg)
  | nilT (sz : Nat) (e : TypeId)
  | pick (c a b : Arg)
  | alloc (ty : TypeId) (cs : List D)
  | allocT (ty : TypeId) (cs : List D) (j sz : Nat) (e : TypeId)
  | box (ty : TypeId) (n : Nat) (x : Arg)
  | load (n : Nat) (agg : Bool) (p : Arg)
  | store (n : Nat) (p v : Arg)
  | nilCheck (x : Arg)
  | bin (op : BinOp) (x y : Arg)
  | beq (neg : Bool) (x y : Arg)
  | isNilS (neg : Bool) (x : Arg)
  | isNilP (neg : Bool) (x : Arg)
  | un (op : UnOp) (x : Arg)
  | cvt (k : IntKind) (x : Arg)
  | cvtS (x : Arg)
  | faddr (off : Nat) (p : Arg)
  | fld (off n : Nat) (agg : Bool) (x : Arg)
  | iaddr (sz : Nat) (x i : Arg)
  | sidx (x i : Arg)
  | sslice (x : Arg) (lo hi : Option Arg)
  | slice (sz : Nat) (x : Arg) (lo hi mx : Option Arg)
  | build (z : List D) (parts : List (Nat × Nat × Arg))
  | bslice (sz : Nat) (parts : List Arg)
  | bsliceT (sz : Nat) (e : TypeId) (parts : List Arg)
  | bsliceM (sz : Nat) (parts : List Arg)
  | appV (sz bytes : Nat) (e : TypeId) (x y : Arg)
  | cutV (sz : Nat) (x hi : Arg)
  | iaddrV (sz : Nat) (x i : Arg)
  | loadV (n : Nat) (agg : Bool) (p : Arg)
  | mkMap
  | lkp (ok : Bool) (key : D) (agg : Bool) (z : List D) (x k : Arg)
  | mpUpd (key : D) (x k v : Arg)
  | eqA (neg : Bool) (l : List D) (x y : Arg)
  | mkSl (sz bytes : Nat) (z : List D) (l c : Arg)
  | ext (x : Arg) (i : Nat)
  | lenS (x : Arg)
  | lenL (x : Arg)
  | mm (isMax : Bool) (x y : Arg)
  | app (sz bytes : Nat) (e : TypeId) (x y : Arg)
  | appS (e : TypeId) (x y : Arg)
  | mkfn (f : Fn) (first captured : List Arg)
  | call (f : FuncId) (args : List Arg)
  | callv (f : Arg) (args : List Arg)
  deriving Inhabited

structure IOp where
  dst : Option Nat
  g : Option (Nat × Bool)
  i : I
  deriving Inhabited

/-! ### how they are made -/

def cVal : Value → Option D
  | .bool b => some (.bool b)
  | .int k n => some (.int k n)
  | .string s => some (.str s.data.toList)
  | .pointer none => some .nilp
  | .nilFunc => some .nilf
  | .nilIface => some .nili
  | .map none => some .nilm
  | _ => none

def sliceElem (P : Program) (t : TypeId) : Option (TypeId × TypeInfo) :=
  match P.underlying t with
  | some (.slice e) => (P.info? e).map fun i => (e, i)
  | _ => none

def cArg (P : Program) (ty : TypeId) : Operand → Option Arg
  | .tmp t => some (.t t)
  | .const (.slice none 0 0) => (sliceElem P ty).map fun x => .c (.sl true x.2.size [])
  | .const v => (cVal v).map .c
  | .func f => some (.c (.fn f))
  | .global _ => none

def isAggD : TypeDesc → Bool
  | .struct _ | .array _ _ => true
  | _ => false

def vOk : Value → D → Bool
  | .bool a, .bool b => a == b
  | .int k n, .int k' n' => k == k' && n == n'
  | .string s, .str l => s.data.toList == l
  | .slice none 0 0, .sl true _ [] => true
  | .pointer none, .nilp | .nilFunc, .nilf | .nilIface, .nili | .map none, .nilm => true
  | _, _ => false

/-- a type's zero, cell by cell -/
def zeroD (P : Program) : Nat → TypeId → Option (List D)
  | 0, _ => none
  | d + 1, t =>
    match P.underlying t with
    | some .bool => some [.bool false]
    | some (.int k) => some [.int k 0]
    | some .string => some [.str []]
    | some (.pointer _) => some [.nilp]
    | some (.slice e) => (P.info? e).map fun i => [.sl true i.size []]
    | some (.map _ _) => some [.nilm]
    | some (.func _ _ _) => some [.nilf]
    | some (.interface _) => some [.nili]
    | some (.struct fs) => fs.toList.foldlM (fun acc f => (zeroD P d f.type).map (acc ++ ·)) []
    | some (.array n e) => (zeroD P d e).map fun z => (List.replicate n z).flatten
    | _ => none

def zeroOf (P : Program) (t : TypeId) : Option (List D) :=
  match P.info? t, zeroD P 20 t with
  | some i, some z =>
    match i.zero with
    | some v => if v.cells.toList.length == z.length && (v.cells.toList.zip z).all (fun x => vOk x.1 x.2) then some z else none
    | none => none
  | _, _ => none

def callOk (P : Program) (f : FuncId) : Bool :=
  match P.funcs[f]? with
  | some fn => fn.body.isSome && !(fn.name == "runtime.NumGoroutine")
  | none => false

def optArg (P : Program) : Option Operand → Option (Option Arg)
  | none => some none
  | some x => (cArg P 0 x).map some

def cArgs (P : Program) (ts : Array TypeId) (xs : Array Operand) : Option (List Arg) :=
  if ts.size = xs.size then (xs.toList.zip ts.toList).mapM fun x => cArg P x.2 x.1 else none

def partsInOrder : Nat → List (Nat × Operand) → Bool
  | _, [] => true
  | n, (i, _) :: r => i == n && partsInOrder (n + 1) r

/-- the first field that is a slice: its cell, the size of its elements, their type -/
def firstSlice (P : Program) : List Field → Option (Nat × Nat × TypeId)
  | [] => none
  | f :: r => match P.underlying f.type with
    | some (.slice e) => (P.info? e).map fun i => (f.offset, i.size, e)
    | _ => firstSlice P r

def firstSliceT (P : Program) (t : TypeId) : Option (Nat × Nat × TypeId) :=
  match P.underlying t with
  | some (.struct fs) => firstSlice P fs.toList
  | some (.slice e) => (P.info? e).map fun i => (0, i.size, e)
  | _ => none

def isNilSl : Option D → Nat → Bool
  | some (.sl true s []), n => s == n
  | _, _ => false

def primD (P : Program) (t : TypeId) : Option D :=
  match P.underlying t with
  | some .bool => some (.bool false)
  | some (.int k) => some (.int k 0)
  | some .string => some (.str [])
  | _ => none

/-- a struct of plain cells, one behind another -/
def flatFs (P : Program) : Nat → List Field → Option (List D)
  | _, [] => some []
  | k, f :: r => if f.offset == k && f.name != "_" then
      match primD P f.type, flatFs P (k + 1) r with
      | some d, some l => some (d :: l)
      | _, _ => none
    else none

/-- is a type's zero a row of cells? -/
def zAgg (P : Program) (t : TypeId) : Bool :=
  match (P.info? t).bind (·.zero) with
  | some (.agg _) => true
  | _ => false

/-- tok: the slots in which a nil slice begins a row that is appended to -/
def compI (P : Program) (tok : List Nat) (o : Oper) : Option I :=
  match o.op with
  | .move x | .assign x =>
    match x, (o.dst.map tok.contains).getD false with
    | .const (.slice none 0 0), true => (sliceElem P o.type).map fun y => .nilT y.2.size y.1
    | x, _ => (cArg P o.type x).map .mv
  | .pick c a b => do pure (.pick (← cArg P 0 c) (← cArg P o.type a) (← cArg P o.type b))
  | .alloc t =>
    if (o.dst.map tok.contains).getD false then
      match firstSliceT P t, zeroOf P t with
      | some (j, sz, e), some cs => if isNilSl cs[j]? sz then some (.allocT t cs j sz e) else none
      | _, _ => none
    else (zeroOf P t).map (.alloc t)
  | .box t y =>
    match P.info? t with
    | some i => (cArg P t y).map (.box t i.size)
    | none => none
  | .load t a =>
    match P.underlying t, P.info? t with
    | some d, some i => if (o.dst.map fun d => tok.contains (d + 3000000)).getD false then
        (if isAggD d then (cArg P 0 a).map (.loadV i.size true) else (cArg P 0 a).map (.loadV 1 false))
      else if isAggD d then (cArg P 0 a).map (.load i.size true) else (cArg P 0 a).map (.load 1 false)
    | _, _ => none
  | .store t a v =>
    match P.info? t with
    | some i => do pure (.store i.size (← cArg P 0 a) (← cArg P t v))
    | none => none
  | .nilCheck x => (cArg P 0 x).map .nilCheck
  | .binOp op t x y _ =>
    match P.underlying t with
    | some (.int _) | some .string => do pure (.bin op (← cArg P t x) (← cArg P t y))
    | some .bool =>
      match op with
      | .eql => do pure (.beq false (← cArg P t x) (← cArg P t y))
      | .neq => do pure (.beq true (← cArg P t x) (← cArg P t y))
      | _ => none
    | some (.slice _) =>
      match op, y with
      | .eql, .const (.slice none 0 0) => (cArg P t x).map (.isNilS false)
      | .neq, .const (.slice none 0 0) => (cArg P t x).map (.isNilS true)
      | _, _ => none
    | some (.pointer _) =>
      match op, y with
      | .eql, .const (.pointer none) => (cArg P t x).map (.isNilP false)
      | .neq, .const (.pointer none) => (cArg P t x).map (.isNilP true)
      | _, _ => none
    | some (.struct fs) =>
      match flatFs P 0 fs.toList, P.stoodInHeld t, P.eqGuardType P.depth t with
      | some l, false, false =>
        match op with
        | .eql => do pure (.eqA false l (← cArg P t x) (← cArg P t y))
        | .neq => do pure (.eqA true l (← cArg P t x) (← cArg P t y))
        | _ => none
      | _, _, _ => none
    | _ => none
  | .unOp op _ x => (cArg P o.type x).map (.un op)
  | .convert s t x =>
    match P.underlying s, P.underlying t with
    | some (.int _), some (.int k) => (cArg P s x).map (.cvt k)
    | some .string, some .string => (cArg P s x).map .cvtS
    | _, _ => none
  | .makeFunc fn first captured => do pure (.mkfn fn (← first.toList.mapM (cArg P 0)) (← captured.toList.mapM (cArg P 0)))
  | .fieldAddr s x f =>
    match P.underlying s with
    | some (.struct fs) =>
      match fs[f]? with
      | some fd => match P.info? fd.type with
        | some i => if i.size = 0 then none else (cArg P 0 x).map (.faddr fd.offset)
        | none => none
      | none => none
    | _ => none
  | .field s x f =>
    match P.underlying s with
    | some (.struct fs) =>
      match fs[f]? with
      | some fd => match P.underlying fd.type, P.info? fd.type with
        | some d, some i => if isAggD d then (cArg P 0 x).map (.fld fd.offset i.size true) else (cArg P 0 x).map (.fld fd.offset 1 false)
        | _, _ => none
      | none => none
    | _ => none
  | .indexAddr t x i =>
    match sliceElem P t with
    | some (_, ti) => if (o.dst.map fun d => tok.contains (d + 3000000)).getD false then do pure (.iaddrV ti.size (← cArg P t x) (← cArg P 0 i)) else do pure (.iaddr ti.size (← cArg P t x) (← cArg P 0 i))
    | none => none
  | .index t x i =>
    match P.underlying t with
    | some .string => do pure (.sidx (← cArg P t x) (← cArg P 0 i))
    | _ => none
  | .slice t x lo hi mx =>
    match P.underlying t, mx with
    | some .string, none => do pure (.sslice (← cArg P t x) (← optArg P lo) (← optArg P hi))
    | some (.slice e), _ => match P.info? e with
      | some ti => if (o.dst.map fun d => tok.contains (d + 2000000)).getD false then
          match lo, hi, mx with
          | none, some h, none => do pure (.cutV ti.size (← cArg P t x) (← cArg P 0 h))
          | _, _, _ => none
        else do pure (.slice ti.size (← cArg P t x) (← optArg P lo) (← optArg P hi) (← optArg P mx))
      | none => none
    | _, _ => none
  | .build t parts =>
    match P.underlying t, zeroOf P t with
    | some (.struct fs), some z => do
      let ps ← parts.toList.mapM fun (x : Nat × Operand) => do
        let fd ← fs[x.1]?
        let i ← P.info? fd.type
        let y ← cArg P fd.type x.2
        pure (fd.offset, i.size, y)
      if fs.all fun f => (P.info? f.type).isSome then pure (.build z ps) else none
    | _, _ => none
  | .buildSlice t n parts =>
    match sliceElem P t with
    | some (e, ti) =>
      if partsInOrder 0 parts.toList && parts.size == n && n * ti.size ≤ 2 ^ 24 && ((zeroOf P e).map (·.length)) == some ti.size && 0 < ti.size then do
        let ps ← parts.toList.mapM fun (x : Nat × Operand) => cArg P e x.2
        if (o.dst.map tok.contains).getD false then pure (.bsliceT ti.size e ps) else
        if (o.dst.map fun d => tok.contains (d + 1000000)).getD false then pure (.bsliceM ti.size ps) else pure (.bslice ti.size ps)
      else none
    | none => none
  | .makeSlice t l c =>
    match sliceElem P t with
    | some (e, ti) => match zeroOf P e with
      | some z => if z.length = ti.size && (ti.zero.map (·.cells.size)) == some ti.size && 0 < ti.size && 0 < ti.bytes then do pure (.mkSl ti.size ti.bytes z (← cArg P 0 l) (← cArg P 0 c)) else none
      | none => none
    | none => none
  | .makeMap _ r => match r with
    | none => some .mkMap
    | some _ => none
  | .lookup t x k ok =>
    match P.underlying t with
    | some (.map kt et) => match primD P kt, zeroOf P et with
      | some kd, some z => do pure (.lkp ok kd (zAgg P et) z (← cArg P t x) (← cArg P kt k))
      | _, _ => none
    | _ => none
  | .mapUpdate t x k v =>
    match P.underlying t with
    | some (.map kt et) => match primD P kt with
      | some kd => do pure (.mpUpd kd (← cArg P t x) (← cArg P kt k) (← cArg P et v))
      | none => none
    | _ => none
  | .extract x i => (cArg P 0 x).map fun y => .ext y i
  | .call c =>
    match c.callee with
    | .builtin .len =>
      match c.argTypes[0]?, c.args.toList with
      | some t, [x] => match P.underlying t with
        | some .string => (cArg P t x).map .lenS
        | some (.slice _) => (cArg P t x).map .lenL
        | _ => none
      | _, _ => none
    | .builtin .max => match c.args.toList with
      | [x, y] => do pure (.mm true (← cArg P 0 x) (← cArg P 0 y))
      | _ => none
    | .builtin .min => match c.args.toList with
      | [x, y] => do pure (.mm false (← cArg P 0 x) (← cArg P 0 y))
      | _ => none
    | .builtin .append =>
      match c.argTypes.toList, c.args.toList with
      | [t, u], [x, y] =>
        match sliceElem P t with
        | some (e, ti) =>
          if ti.bytes = 0 || ti.size = 0 || (ti.zero.map (·.cells.size)) != some ti.size then none else
          match P.underlying u with
          | some (.slice _) => if (o.dst.map fun d => tok.contains (d + 2000000)).getD false then do pure (.appV ti.size ti.bytes e (← cArg P t x) (← cArg P t y)) else do pure (.app ti.size ti.bytes e (← cArg P t x) (← cArg P t y))
          | some .string => if ti.size == 1 && ti.bytes == 1 then do pure (.appS e (← cArg P t x) (← cArg P u y)) else none
          | _ => none
        | none => none
      | _, _ => none
    | .value (.func f) => if callOk P f then (cArgs P c.argTypes c.args).map (.call f) else none
    | .value f => do pure (.callv (← cArg P 0 f) (← cArgs P c.argTypes c.args))
    | _ => none
  | _ => none

/-! ### what they do -/

def intOp (op : BinOp) (k : IntKind) (a b : Int) : Option D :=
  match op with
  | .add => some (.int k (k.wrap (a + b)))
  | .sub => some (.int k (k.wrap (a - b)))
  | .mul => some (.int k (k.wrap (a * b)))
  | .quo => if b = 0 then none else some (.int k (k.wrap (a.tdiv b)))
  | .rem => if b = 0 then none else some (.int k (a.tmod b))
  | .and => some (.int k (k.wrap (BitVec.ofInt k.bits a &&& BitVec.ofInt k.bits b).toNat))
  | .or => some (.int k (k.wrap (BitVec.ofInt k.bits a ||| BitVec.ofInt k.bits b).toNat))
  | .xor => some (.int k (k.wrap (BitVec.ofInt k.bits a ^^^ BitVec.ofInt k.bits b).toNat))
  | .andNot => some (.int k (k.wrap (BitVec.ofInt k.bits a &&& ~~~BitVec.ofInt k.bits b).toNat))
  | .eql => some (.bool (decide (a = b)))
  | .neq => some (.bool (decide (a ≠ b)))
  | .lss => some (.bool (decide (a < b)))
  | .leq => some (.bool (decide (a ≤ b)))
  | .gtr => some (.bool (decide (b < a)))
  | .geq => some (.bool (decide (b ≤ a)))
  | _ => none

def shOp (op : BinOp) (k : IntKind) (a b : Int) : Option D :=
  if b < 0 then none else
  match op with
  | .shl => some (.int k (k.wrap (a * 2 ^ (min b.toNat k.bits))))
  | .shr => some (.int k (a.fdiv (2 ^ (min b.toNat k.bits))))
  | _ => none

def strOp (op : BinOp) (a b : List UInt8) : Option D :=
  match op with
  | .add => if a.length + b.length ≤ 9223372036854775807 then some (.str (a ++ b)) else none
  | .eql => some (.bool (decide (a = b)))
  | .neq => some (.bool (decide (a ≠ b)))
  | .lss => some (.bool (Op.bytesLess a b))
  | .leq => some (.bool (Op.bytesLess a b || decide (a = b)))
  | .gtr => some (.bool (!(Op.bytesLess a b || decide (a = b))))
  | .geq => some (.bool (!Op.bytesLess a b))
  | _ => none

def binA (op : BinOp) : A → A → Option A
  | .d (.int k a), .d (.int k' b) =>
    match op with
    | .shl | .shr => (shOp op k a b).map .d
    | _ => if k = k' then (intOp op k a b).map .d else none
  | .d (.str a), .d (.str b) => (strOp op a b).map .d
  | _, _ => none

def beqA (neg : Bool) : A → A → Option A
  | .d (.bool a), .d (.bool b) => some (.d (.bool (if neg then decide (a ≠ b) else decide (a = b))))
  | _, _ => none

def isNilS (neg : Bool) : A → Option A
  | .d (.sl z _ rows) => some (.d (.bool (if neg then !(z && rows.isEmpty) else (z && rows.isEmpty))))
  | .osl z _ rows _ => some (.d (.bool (if neg then !(z && rows.isEmpty) else (z && rows.isEmpty))))
  | .msl _ _ _ => some (.d (.bool neg))
  | _ => none

def isNilP (neg : Bool) : A → Option A
  | .d .nilp => some (.d (.bool (!neg)))
  | .ptr _ _ | .aptr _ _ _ | .eptr _ => some (.d (.bool neg))
  | _ => none

def unA (op : UnOp) : A → Option A
  | .d (.int k n) => match op with
    | .neg => some (.d (.int k (k.wrap (0 - n))))
    | _ => none
  | .d (.bool b) => match op with
    | .not => some (.d (.bool !b))
    | _ => none
  | _ => none

def A.cells : A → List A
  | .agg cs => cs
  | x => [x]

def cutL {α : Type} (l : List α) (off n : Nat) : Option (List α) := if off + n ≤ l.length then some ((l.drop off).take n) else none

def setL {α : Type} : List α → Nat → List α → List α
  | l, _, [] => l
  | l, i, x :: r => setL (l.set i x) (i + 1) r

def ldA (H : Hp) (n : Nat) : A → Option (List A)
  | .ptr i off => match H[i]? with
    | some (.box _ cs) => cutL cs off n
    | _ => none
  | .aptr i k off => match H[i]? with
    | some (.arr _ rows) => match rows[k]? with
      | some r => cutL r off n
      | none => none
    | _ => none
  | .eptr cells => (cutL cells 0 n).map (List.map .d)
  | _ => none

def stA (H : Hp) (cs : List A) : A → Option Hp
  | .ptr i off => match H[i]? with
    | some (.box ty old) => if off + cs.length ≤ old.length then some (H.set i (.box ty (setL old off cs))) else none
    | _ => none
  | .aptr i k off => match H[i]? with
    | some (.arr sz rows) => match rows[k]? with
      | some r => if off + cs.length ≤ r.length then some (H.set i (.arr sz (rows.set k (setL r off cs)))) else none
      | none => none
    | _ => none
  | _ => none

def nilCheckA : A → Bool
  | .ptr _ _ | .aptr _ _ _ | .eptr _ | .vptr .. | .d (.fn _) | .fn (.func _) _ _ => true
  | _ => false

def faddrA (off : Nat) : A → Option A
  | .ptr i o => some (.ptr i (o + off))
  | .aptr i k o => some (.aptr i k (o + off))
  | .eptr cells => some (.eptr (cells.drop off))
  | .vptr i k x o => some (.vptr i k x (o + off))
  | _ => none

def rowAt (rows : List (List D)) (n : Int) : Option (List D) := if 0 ≤ n then rows[n.toNat]? else none

def iaddrA (H : Hp) (sz : Nat) : A → A → Option A
  | .d (.sl _ s rows), .d (.int _ n) => if s = sz then (rowAt rows n).map .eptr else none
  | .osl _ s rows _, .d (.int _ n) => if s = sz then (rowAt rows n).map .eptr else none
  | .msl a off len, .d (.int _ n) => match H[a]? with
    | some (.arr s _) => if s = sz ∧ 0 ≤ n ∧ n < len then some (.aptr a (off + n.toNat) 0) else none
    | _ => none
  | _, _ => none

def byteAt (s : List UInt8) (n : Int) : Option UInt8 := if 0 ≤ n then s[n.toNat]? else none

def boundOf (fr : Fr) (d : Nat) : Option Arg → Option Int
  | none => some d
  | some x => match x.ev fr with
    | .d (.int _ n) => some n
    | _ => none

def subL {α : Type} (l : List α) (lo hi : Int) : Option (List α) :=
  if 0 ≤ lo ∧ lo ≤ hi ∧ hi ≤ l.length then some ((l.drop lo.toNat).take (hi.toNat - lo.toNat)) else none

def sliceA (sz : Nat) (lo hi : Int) (mx : Option Int) : A → Option A
  | .d (.sl z s rows) => if s = sz ∧ (∀ m, mx = some m → hi ≤ m ∧ m ≤ rows.length) then (subL rows lo hi).map fun r => .d (.sl (z && rows.isEmpty) s r) else none
  | .osl z s rows _ => if s = sz ∧ (∀ m, mx = some m → hi ≤ m ∧ m ≤ rows.length) then (subL rows lo hi).map fun r => .d (.sl (z && rows.isEmpty) s r) else none
  | _ => none

def lenA : A → Option Nat
  | .d (.sl _ _ rows) => some rows.length
  | .osl _ _ rows _ => some rows.length
  | .msl _ _ n => some n
  | .vsl _ _ n => some n
  | _ => none

def mmA (isMax : Bool) : A → A → Option A
  | .d (.int k a), .d (.int k' b) => if k = k' then some (.d (.int k (if isMax then max a b else min a b))) else none
  | _, _ => none

def A.toD : A → Option D
  | .d x => some x
  | .osl z s r _ => some (.sl z s r)
  | .fn (.func f) [] [] => some (.fn f)
  | _ => none

def fillA : List (Nat × Nat × A) → List A → Option (List A)
  | [], cs => some cs
  | (off, n, v) :: r, cs => if v.cells.length = n ∧ v.cells.all A.flat = true ∧ off + n ≤ cs.length then fillA r (setL cs off v.cells) else none

def rowOf (sz : Nat) (v : A) : Option (List D) := if v.cells.length = sz ∧ v.cells.all A.flat = true then v.cells.mapM A.toD else none

def appA (H : Hp) (sz bytes : Nat) (e : TypeId) (new : List (List D)) : A → Option (A × Hp)
  | .osl z s rows t =>
    match H[t]? with
    | some (.tok n s' e') => if s = sz ∧ s' = sz ∧ e' = e ∧ n = rows.length ∧ (rows.length + new.length) * bytes ≤ 140737488355328 then
        some (.osl z s (rows ++ new) t, H.set t (.tok (rows.length + new.length) sz e)) else none
    | _ => none
  | .d (.sl true s []) => if s = sz ∧ new.length * bytes ≤ 140737488355328 then some (.d (.sl true s new), H) else none
  | .msl i 0 0 =>
    match H[i]? with
    | some (.arr s []) => if s = sz ∧ new.length * bytes ≤ 140737488355328 then
        match new with
        | [] => some (.msl i 0 0, H)
        | r :: rs => some (.msl H.length 0 (rs.length + 1), H ++ [.arr sz ((r :: rs).map (List.map .d))])
      else none
    | _ => none
  | _ => none

def slOf (sz : Nat) : A → Option (List (List D))
  | .d (.sl _ s rows) => if s = sz then some rows else none
  | .osl _ s rows _ => if s = sz then some rows else none
  | _ => none

def eqD : D → D → D → Option Bool
  | .bool _, .bool a, .bool b => some (a == b)
  | .int _ _, .int k a, .int k' b => if k = k' then some (decide (a = b)) else none
  | .str _, .str a, .str b => some (decide (a = b))
  | _, _, _ => none

def eqDs : List D → List A → List A → Option Bool
  | [], [], [] => some true
  | l :: ls, .d a :: r, .d b :: s => match eqD l a b, eqDs ls r s with
    | some h, some t => some (h && t)
    | _, _ => none
  | _, _, _ => none

def keyOf : D → D → Bool
  | .bool _, .bool _ => true
  | .int k _, .int k' _ => decide (k = k')
  | .str _, .str _ => true
  | _, _ => false

def sameK : D → D → Bool
  | .bool a, .bool b => a == b
  | .int _ a, .int _ b => decide (a = b)
  | .str a, .str b => decide (a = b)
  | _, _ => false

def mpGet (k : D) : List (D × A) → Option A
  | [] => none
  | e :: r => if sameK k e.1 then some e.2 else mpGet k r

def mpPut (k : D) (v : A) : List (D × A) → List (D × A)
  | [] => [(k, v)]
  | e :: r => if sameK k e.1 then (k, v) :: r else e :: mpPut k v r

def mpOk (key k : D) (l : List (D × A)) : Bool := keyOf key k && l.all fun e => keyOf key e.1

def zA (agg : Bool) (z : List D) : A := if agg then .agg (z.map .d) else .d (z.headD .nilp)

def ldV (H : Hp) (n : Nat) : A → Option (List A)
  | .vptr i k x off => match H[i]? with
    | some (.vec _ _ k' rows) => if k = k' then match rows[x]? with
      | some r => (cutL r off n).map (List.map .d)
      | none => none else none
    | _ => none
  | _ => none

def iaddrV (H : Hp) (sz : Nat) : A → A → Option A
  | .vsl a k len, .d (.int _ n) => match H[a]? with
    | some (.vec s _ k' _) => if s = sz ∧ k = k' ∧ 0 ≤ n ∧ n < len then some (.vptr a k n.toNat 0) else none
    | _ => none
  | _, _ => none

def appVA (H : Hp) (sz bytes : Nat) (e : TypeId) (r : List D) (new : List (List D)) : A → Option (A × Hp)
  | .d (.sl true s []) => if s = sz ∧ (new.length + 1) * bytes ≤ 140737488355328 then some (.vsl H.length 0 (new.length + 1), H ++ [.vec sz e 0 (r :: new)]) else none
  | .vsl i k len => match H[i]? with
    | some (.vec s e' k' rows) => if s = sz ∧ e' = e ∧ k' = k ∧ len ≤ rows.length ∧ (len + (new.length + 1)) * bytes ≤ 140737488355328 then
        some (.vsl i (k + 1) (len + (new.length + 1)), H.set i (.vec sz e (k + 1) (rows.take len ++ r :: new))) else none
    | _ => none
  | _ => none

def byteRows (s : List UInt8) : List (List D) := s.map fun b => [.int .u8 b.toNat]

def stepI (fr : Fr) (H : Hp) : I → Option (A × Hp)
  | .mv x => some (x.ev fr, H)
  | .nilT sz e => some (.osl true sz [] H.length, H ++ [.tok 0 sz e])
  | .pick c a b => match c.ev fr with
    | .d (.bool t) => some (if t then a.ev fr else b.ev fr, H)
    | _ => none
  | .alloc ty cs => some (.ptr H.length 0, H ++ [.box ty (cs.map .d)])
  | .allocT ty cs j sz e => some (.ptr (H.length + 1) 0, H ++ [.tok 0 sz e, .box ty ((cs.map .d).set j (.osl true sz [] H.length))])
  | .box ty n y => if (y.ev fr).cells.length = n ∧ ((y.ev fr).cells.all A.flat) = true then some (.ptr H.length 0, H ++ [.box ty (y.ev fr).cells]) else none
  | .load n agg p => (ldA H n (p.ev fr)).map fun cs => (if agg then .agg cs else cs.headD .undef, H)
  | .store n p v => if (v.ev fr).cells.length = n ∧ ((v.ev fr).cells.all A.flat) = true then (stA H (v.ev fr).cells (p.ev fr)).map fun H' => (.tup [], H') else none
  | .nilCheck x => if nilCheckA (x.ev fr) then some (x.ev fr, H) else none
  | .bin op x y => (binA op (x.ev fr) (y.ev fr)).map (·, H)
  | .beq neg x y => (beqA neg (x.ev fr) (y.ev fr)).map (·, H)
  | .isNilS neg x => (isNilS neg (x.ev fr)).map (·, H)
  | .isNilP neg x => (isNilP neg (x.ev fr)).map (·, H)
  | .un op x => (unA op (x.ev fr)).map (·, H)
  | .cvt k x => match x.ev fr with
    | .d (.int _ n) => some (.d (.int k (k.wrap n)), H)
    | _ => none
  | .faddr off p => (faddrA off (p.ev fr)).map (·, H)
  | .fld off n agg x => match x.ev fr with
    | .agg cs => (cutL cs off n).map fun cs => (if agg then .agg cs else cs.headD .undef, H)
    | _ => none
  | .iaddr sz x i => (iaddrA H sz (x.ev fr) (i.ev fr)).map (·, H)
  | .sidx x i => match x.ev fr, i.ev fr with
    | .d (.str s), .d (.int _ n) => (byteAt s n).map fun b => (.d (.int .u8 b.toNat), H)
    | _, _ => none
  | .sslice x lo hi => match x.ev fr with
    | .d (.str s) => match boundOf fr 0 lo, boundOf fr s.length hi with
      | some l, some h => (subL s l h).map fun r => (.d (.str r), H)
      | _, _ => none
    | _ => none
  | .slice sz x lo hi mx => match lenA (x.ev fr) with
    | some n => match boundOf fr 0 lo, boundOf fr n hi, mx with
      | some l, some h, none => (sliceA sz l h none (x.ev fr)).map (·, H)
      | some l, some h, some m => match boundOf fr 0 (some m) with
        | some m => if hi.isSome then (sliceA sz l h (some m) (x.ev fr)).map (·, H) else none
        | none => none
      | _, _, _ => none
    | none => none
  | .build z parts => (fillA (parts.map fun x => (x.1, x.2.1, x.2.2.ev fr)) (z.map .d)).map fun cs => (.agg cs, H)
  | .bslice sz parts => (parts.mapM fun x => rowOf sz (x.ev fr)).map fun rows => (.d (.sl false sz rows), H)
  | .bsliceT sz e parts => (parts.mapM fun x => rowOf sz (x.ev fr)).map fun rows => (.osl false sz rows H.length, H ++ [.tok rows.length sz e])
  | .eqA neg l x y => match x.ev fr, y.ev fr with
    | .agg cs, .agg ds => (eqDs l cs ds).map fun b => (.d (.bool (neg != b)), H)
    | _, _ => none
  | .appV sz bytes e x y => match slOf sz (y.ev fr) with
    | some (r :: new) => appVA H sz bytes e r new (x.ev fr)
    | _ => none
  | .cutV _ x hi => match x.ev fr, hi.ev fr with
    | .vsl i k len, .d (.int _ n) => if 0 ≤ n ∧ n ≤ len then some (.vsl i k n.toNat, H) else none
    | _, _ => none
  | .iaddrV sz x i => (iaddrV H sz (x.ev fr) (i.ev fr)).map (·, H)
  | .loadV n agg p => (ldV H n (p.ev fr)).map fun cs => (if agg then .agg cs else cs.headD .undef, H)
  | .mkMap => some (.map H.length, H ++ [.mp []])
  | .lkp ok key agg z x k => match k.ev fr, x.ev fr with
    | .d kd, .map i => match H[i]? with
      | some (.mp l) => if mpOk key kd l then match mpGet kd l with
        | some a => some (if ok then .tup [a, .d (.bool true)] else a, H)
        | none => some (if ok then .tup [zA agg z, .d (.bool false)] else zA agg z, H) else none
      | _ => none
    | .d kd, .d .nilm => if keyOf key kd then some (if ok then .tup [zA agg z, .d (.bool false)] else zA agg z, H) else none
    | _, _ => none
  | .mpUpd key x k v => match x.ev fr, k.ev fr with
    | .map i, .d kd => match H[i]? with
      | some (.mp l) => if mpOk key kd l ∧ (v.ev fr).flat = true then some (.tup [], H.set i (.mp (mpPut kd (v.ev fr) l))) else none
      | _ => none
    | _, _ => none
  | .bsliceM sz parts => (parts.mapM fun x => rowOf sz (x.ev fr)).map fun rows => (.msl H.length 0 rows.length, H ++ [.arr sz (rows.map (List.map .d))])
  | .mkSl sz bytes z l c => match l.ev fr, c.ev fr with
    | .d (.int _ n), .d (.int _ m) => if n = m ∧ 0 ≤ n ∧ n * bytes ≤ 140737488355328 then some (.msl H.length 0 n.toNat, H ++ [.arr sz (List.replicate n.toNat (z.map .d))]) else none
    | _, _ => none
  | .ext x i => match x.ev fr with
    | .tup vs => (vs[i]?).map (·, H)
    | _ => none
  | .cvtS x => match x.ev fr with
    | .d (.str s) => some (.d (.str s), H)
    | _ => none
  | .lenS x => match x.ev fr with
    | .d (.str s) => some (.d (.int .i64 s.length), H)
    | _ => none
  | .lenL x => (lenA (x.ev fr)).map fun (n : Nat) => (.d (.int .i64 (n : Int)), H)
  | .mm isMax x y => (mmA isMax (x.ev fr) (y.ev fr)).map (·, H)
  | .app sz bytes e x y => match slOf sz (y.ev fr) with
    | some new => appA H sz bytes e new (x.ev fr)
    | none => none
  | .appS e x y => match y.ev fr with
    | .d (.str s) => appA H 1 1 e (byteRows s) (x.ev fr)
    | _ => none
  | .mkfn f a b => some (.fn f (a.map (Arg.ev fr)) (b.map (Arg.ev fr)), H)
  | .call _ _ | .callv _ _ => none

end Go.Zam
