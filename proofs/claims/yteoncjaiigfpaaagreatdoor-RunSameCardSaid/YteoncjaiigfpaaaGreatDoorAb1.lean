import Derived.Calls
import Derived.Defers
import Derived.Recover
import Derived.Orders
import Derived.Scope
set_option linter.all false
namespace Go.Ab
noncomputable section

inductive T (α : Type) where
  | nil
  | node (l : T α) (v : Option α) (r : T α)

namespace T
variable {α : Type}
/-- By the recursor itself: so the kernel has the least to unfold. -/
noncomputable def get (t : T α) : Nat → Option α :=
  T.rec (motive := fun _ => Nat → Option α) (fun _ => none) (fun _ v _ gl gr n =>
    Bool.rec (motive := fun _ => Option α) (Bool.rec (motive := fun _ => Option α) (gr (Nat.div (Nat.sub n 1) 2)) (gl (Nat.div (Nat.sub n 1) 2)) (Nat.beq (Nat.mod n 2) 1)) v (Nat.beq n 0)) t
noncomputable def setF (f : Nat) : T α → Nat → Option α → T α :=
  Nat.rec (motive := fun _ => T α → Nat → Option α → T α) (fun t _ _ => t) (fun _ ih t n x =>
    T.rec (motive := fun _ => T α)
      (Bool.rec (motive := fun _ => T α) (Bool.rec (motive := fun _ => T α) (.node .nil none (ih .nil (Nat.div (Nat.sub n 1) 2) x)) (.node (ih .nil (Nat.div (Nat.sub n 1) 2) x) none .nil) (Nat.beq (Nat.mod n 2) 1)) (.node .nil x .nil) (Nat.beq n 0))
      (fun l v r _ _ => Bool.rec (motive := fun _ => T α) (Bool.rec (motive := fun _ => T α) (.node l v (ih r (Nat.div (Nat.sub n 1) 2) x)) (.node (ih l (Nat.div (Nat.sub n 1) 2) x) v r) (Nat.beq (Nat.mod n 2) 1)) (.node l x r) (Nat.beq n 0))
      t) f
def set (t : T α) (n : Nat) (x : α) : T α := setF (n + 1) t n (some x)
def erase (t : T α) (n : Nat) : T α := setF (n + 1) t n none
def eraseAll (t : T α) : List Nat → T α
  | [] => t
  | n :: ns => eraseAll (t.erase n) ns
def setFrom (t : T α) (i : Nat) : List α → T α
  | [] => t
  | x :: xs => setFrom (t.set i x) (i + 1) xs
end T

/-- A capacity from here on: the tape has drawn it; what it is above this is the cells of an element. -/
def topCap : Nat := 2 ^ 64

inductive Blk where
  | row (cells : List Value) (esz : Nat)
  | map (es : List MapEntry) (clock : Nat)
  deriving Inhabited

structure H where
  next : Nat
  ro : Nat
  blks : T Blk

def H.get (A : H) (b : Nat) : Option Blk := A.blks.get b
def H.put (A : H) (b : Nat) (B : Blk) : H := match A with | ⟨n, o, t⟩ => ⟨n, o, t.set b B⟩
def H.kill (A : H) (b : Nat) : H := match A with | ⟨n, o, t⟩ => ⟨n, o, t.erase b⟩
def H.push (A : H) (B : Blk) : H := match A with | ⟨n, o, t⟩ => ⟨n + 1, o, t.set n B⟩

def H.row (A : H) (b : Nat) : Option (List Value) :=
  match A.get b with
  | some (.row cs _) => some cs
  | _ => none

/-- n cells from off on. -/
def H.read (A : H) (b off n : Nat) : Option (List Value) :=
  match A.get b with
  | some (.row cs _) => if off + n ≤ cs.length then some ((cs.drop off).take n) else none
  | _ => none

def setAt : List Value → Nat → List Value → List Value
  | cs, 0, [] => cs
  | [], _, _ => []
  | _ :: cs, 0, v :: vs => v :: setAt cs 0 vs
  | c :: cs, n + 1, vs => c :: setAt cs n vs

def oneCell : Value → Bool
  | .agg _ | .tuple _ => false
  | _ => true

/-- cells stored from off on. -/
def H.write (A : H) (b off : Nat) (vs : List Value) : Option H :=
  match A.get b with
  | some (.row cs esz) => if off + vs.length ≤ cs.length ∧ A.ro ≤ b ∧ vs.all oneCell then some (A.put b (.row (setAt cs off vs) esz)) else none
  | _ => none

/-- A value that leads to no memory: it is related to itself. -/
def plain1 : Value → Bool
  | .bool _ | .int .. | .float .. | .complex .. | .string _ | .pointer none | .map none | .chan none | .nilFunc | .nilIface => true
  | .slice none 0 0 => true
  | _ => false

def plain : Value → Bool
  | .agg cs => cs.toList.all plain1
  | v => plain1 v

structure Act where
  n : Nat
  tm : T Value
  defers : List Deferred

def Act.put (a : Act) (dst : Option Tmp) (v : Value) : Option Act :=
  match dst with
  | none => some a
  | some d => match a with
    | ⟨n, tm, ds⟩ => cond (Nat.ble (d + 1) n) (some ⟨n, tm.set d v, ds⟩) none

def Act.ev (P : Program) (a : Act) : Operand → Option Value
  | .tmp t => a.tm.get t
  | .const v => if plain v then some v else none
  | .global g => if g < P.globals.size then some (.pointer (some ⟨g, 0, none⟩)) else none
  | .func f => some (.func (.func f) #[] #[])

inductive AEnd where
  | ret (v : Value)
  | pan (ch : List PanicEntry)

inductive AExit where
  | normal | exit (id : Nat) | goto (l : Nat) | ret | panic (ch : List PanicEntry)

/-- What comes of an operation. -/
inductive OR where
  | val (v : Value)
  | defer (d : Deferred)
  | pan (ch : List PanicEntry)

def pan1 (v : Value) : OR := .pan [{ v, recovered := false }]

def nilDeref (P : Program) : OR := pan1 (.iface P.rt.errorString (strVal "invalid memory address or nil pointer dereference"))

abbrev CallF := FuncId → List Value → H → Option (AEnd × H)

def evs (ev : Operand → Option Value) : List Operand → Option (List Value)
  | [] => some []
  | x :: xs => match ev x, evs ev xs with
    | some v, some vs => some (v :: vs)
    | _, _ => none

def evParts (ev : Operand → Option Value) : List (Nat × Operand) → Option (List (Nat × Value))
  | [] => some []
  | (i, x) :: xs => match ev x, evParts ev xs with
    | some v, some vs => some ((i, v) :: vs)
    | _, _ => none

def zeroOf (P : Program) (t : TypeId) : Option Value :=
  match P.info? t with
  | some i => match i.zero with
    | some z => if plain z then some z else none
    | none => none
  | none => none

def szOf (P : Program) (t : TypeId) : Option Nat := (P.info? t).map (·.size)

def isAggD : TypeDesc → Bool
  | .struct _ | .array _ _ => true
  | _ => false

/-- A part of cells, as a value. -/
def aPart (P : Program) (t : TypeId) (cs : List Value) (off : Nat) : Option Value :=
  match P.underlying t, szOf P t with
  | some d, some n => if isAggD d then some (.agg ((cs.drop off).take n).toArray) else cs[off]?
  | _, _ => none

/-- A new row: its cells; a pointer to it is told, or a slice of so many. -/
inductive LR where
  | row (cells : List Value) (esz : Nat) (len : Option Nat)

def boolV (b : Bool) : Option OR := some (.val (.bool b))

def aInt (P : Program) (op : BinOp) (k : IntKind) (a b : Int) : Option OR :=
  match op with
  | .add => some (.val (.int k (k.wrap (a + b))))
  | .sub => some (.val (.int k (k.wrap (a - b))))
  | .mul => some (.val (.int k (k.wrap (a * b))))
  | .quo => if b = 0 then some (pan1 (.iface P.rt.errorString (strVal "integer divide by zero"))) else some (.val (.int k (k.wrap (a.tdiv b))))
  | .rem => if b = 0 then some (pan1 (.iface P.rt.errorString (strVal "integer divide by zero"))) else some (.val (.int k (a.tmod b)))
  | .and => some (.val (.int k (k.wrap (BitVec.ofInt k.bits a &&& BitVec.ofInt k.bits b).toNat)))
  | .or => some (.val (.int k (k.wrap (BitVec.ofInt k.bits a ||| BitVec.ofInt k.bits b).toNat)))
  | .xor => some (.val (.int k (k.wrap (BitVec.ofInt k.bits a ^^^ BitVec.ofInt k.bits b).toNat)))
  | .andNot => some (.val (.int k (k.wrap (BitVec.ofInt k.bits a &&& ~~~(BitVec.ofInt k.bits b)).toNat)))
  | .eql => boolV (a == b)
  | .neq => boolV (a != b)
  | .lss => boolV (decide (a < b))
  | .leq => boolV (decide (a ≤ b))
  | .gtr => boolV (decide (a > b))
  | .geq => boolV (decide (a ≥ b))
  | _ => none

def isConst : Operand → Bool
  | .const _ => true
  | _ => false

/-- Are two values that lead to no memory, of whole numbers, bools and texts, the same? None: it can't be told. -/
def flatEq : Value → Value → Option Bool
  | .int k a, .int k' b => if k = k' then some (a == b) else none
  | .bool a, .bool b => some (a == b)
  | .string a, .string b => some (a == b)
  | _, _ => none

def flatEqs : List Value → List Value → Option Bool
  | [], [] => some true
  | x :: xs, y :: ys => match flatEq x y with
    | some true => flatEqs xs ys
    | some false => (flatEqs xs ys).map fun _ => false
    | none => none
  | _, _ => none

/-- Are two structs of whole numbers, bools, texts, and structs of these, the same? -/
def aEqFields (P : Program) (eq : TypeId → Value → Value → Option Bool) (xs ys : List Value) : List Field → Option Bool
  | [] => some true
  | f :: fs =>
    if f.name ≠ "_" then
      match aPart P f.type xs f.offset, aPart P f.type ys f.offset with
      | some a, some b => match eq f.type a b with
        | some true => aEqFields P eq xs ys fs
        | some false => some false
        | none => none
      | _, _ => none
    else aEqFields P eq xs ys fs

def aEq (P : Program) : Nat → TypeId → Value → Value → Option Bool
  | 0, _, _, _ => none
  | d + 1, t, x, y =>
    match P.underlying t, x, y with
    | some (.int _), .int k a, .int k' b => if k = k' then some (a == b) else none
    | some .bool, .bool a, .bool b => some (a == b)
    | some .string, .string a, .string b => some (a.toList == b.toList)
    | some (.struct fs), .agg xs, .agg ys => if P.stoodInHeld t then none else aEqFields P (aEq P d) xs.toList ys.toList fs.toList
    | _, _, _ => none

/-- Two values of which one is nil, or both: are they the same? -/
def nilEq (d : TypeDesc) (a b : Value) : Option Bool :=
  match d, a, b with
  | .bool, .bool a, .bool b => some (a == b)
  | .slice _, .slice none _ _, .slice b _ _ => some b.isNone
  | .slice _, .slice (some _) _ _, .slice none _ _ => some false
  | .pointer _, .pointer none, .pointer b => some b.isNone
  | .pointer _, .pointer (some _), .pointer none => some false
  | .map _ _, .map none, .map b => some b.isNone
  | .map _ _, .map (some _), .map none => some false
  | .func _ _ _, .nilFunc, .nilFunc => some true
  | .func _ _ _, .nilFunc, .func _ _ _ => some false
  | .func _ _ _, .func _ _ _, .nilFunc => some false
  | .interface _, .nilIface, .iface _ _ => some false
  | .interface _, .iface _ _, .nilIface => some false
  | _, _, _ => none

/-- == of values that are no numbers. -/
def aEql (P : Program) (t : TypeId) (x y : Operand) (a b : Value) : Option Bool :=
  match P.underlying t with
  | none => none
  | some d => match a, b with
    | .string a, .string b => some (a.toList == b.toList)
    | .nilIface, .nilIface => match d with
      | .interface _ => if isConst x || isConst y then some true else none
      | _ => none
    | .agg a, .agg b => if P.eqGuardType P.depth t then none else aEq P 10000 t (.agg a) (.agg b)
    | a, b => nilEq d a b

def aBin (P : Program) (op : BinOp) (t : TypeId) (x y : Operand) (a b : Value) : Option OR :=
  match a, b with
  | .int k n, .int k' m =>
    match op with
    | .shl => if m < 0 then none else some (.val (.int k (k.wrap (n * 2 ^ (min m.toNat k.bits)))))
    | .shr => if m < 0 then none else some (.val (.int k (n.fdiv (2 ^ (min m.toNat k.bits)))))
    | op => if k = k' then aInt P op k n m else none
  | a, b =>
    match op with
    | .eql => (aEql P t x y a b).map fun r => .val (.bool r)
    | .neq => (aEql P t x y a b).map fun r => .val (.bool (!r))
    | _ => none

/-- Operations that look at no memory and write none. -/
def aLight (P : Program) (ev : Operand → Option Value) (o : Oper) : Option OR :=
  match o.op with
  | .move x | .assign x => (ev x).map .val
  | .pick c a b => match ev c with
    | some (.bool true) => (ev a).map .val
    | some (.bool false) => (ev b).map .val
    | _ => none
  | .nilCheck x => match ev x with
    | some (.pointer none) | some .nilIface | some .nilFunc => some (nilDeref P)
    | some (.func (.func f) a b) => some (.val (.func (.func f) a b))
    | some (.pointer (some a)) => some (.val (.pointer (some a)))
    | _ => none
  | .binOp op t x y _ => match ev x, ev y with
    | some a, some b => aBin P op t x y a b
    | _, _ => none
  | .unOp op _ x => match op, ev x with
    | .not, some (.bool b) => boolV (!b)
    | .neg, some (.int k n) => aInt P .sub k 0 n
    | _, _ => none
  | .convert src dst x => match P.underlying src, P.underlying dst, ev x with
    | some _, some (.int k), some (.int _ n) => some (.val (.int k (k.wrap n)))
    | _, _, _ => none
  | .makeInterface t x => match P.underlying t, ev x with
    | some (.interface _), _ => none
    | some _, some v => some (.val (.iface t v))
    | _, _ => none
  | .makeFunc fn first cap => match fn, evs ev first.toList, evs ev cap.toList with
    | .func f, some a, some b => some (.val (.func (.func f) a.toArray b.toArray))
    | _, _, _ => none
  | .fieldAddr s x f => match P.underlying s, ev x with
    | some (.struct fields), some (.pointer (some a)) => match fields[f]? with
      | some fd => match szOf P fd.type with
        | some n => if n = 0 ∨ a.spot.isSome then none else some (.val (.pointer (some ⟨a.block, a.off + fd.offset, none⟩)))
        | none => none
      | none => none
    | _, _ => none
  | .field t x f => match P.underlying t, ev x with
    | some (.struct fields), some (.agg cs) => match fields[f]? with
      | some fd => (aPart P fd.type cs.toList fd.offset).map .val
      | none => none
    | _, _ => none
  | .indexAddr t x i => match P.underlying t, ev x, ev i with
    | some (.slice e), some (.slice (some a) len _), some (.int _ n) => match szOf P e with
      | some s => if 0 ≤ n ∧ n < len ∧ ¬ a.spot.isSome then some (.val (.pointer (some ⟨a.block, a.off + n.toNat * s, none⟩))) else none
      | none => none
    | some (.array len e), some (.pointer (some a)), some (.int _ n) => match szOf P e with
      | some s => if 0 ≤ n ∧ n < len ∧ ¬ a.spot.isSome then some (.val (.pointer (some ⟨a.block, a.off + n.toNat * s, none⟩))) else none
      | none => none
    | _, _, _ => none
  | .index t x i => match P.underlying t, ev x, ev i with
    | some (.array len e), some (.agg cs), some (.int _ n) => match szOf P e with
      | some s => if 0 ≤ n ∧ n < len then (aPart P e cs.toList (n.toNat * s)).map .val else none
      | none => none
    | some .string, some (.string s), some (.int _ n) =>
      if 0 ≤ n then match s[n.toNat]? with
        | some b => some (.val (.int .u8 b.toNat))
        | none => none
      else none
    | _, _, _ => none
  | .slice t x lo hi mx => match P.underlying t, ev x with
    | some (.slice e), some (.slice base len cap) =>
      let num (y : Option Operand) : Option (Option Int) := match y with
        | none => some none
        | some y => match ev y with
          | some (.int _ n) => some (some n)
          | _ => none
      match szOf P e, num lo, num hi, num mx with
      | some s, some lo, some hi, some mx =>
        let l := (lo.getD 0)
        let h := (hi.getD len)
        if 0 ≤ l ∧ l ≤ h ∧ h ≤ len then
          match mx with
          | some m =>
            if h ≤ m ∧ m ≤ len ∧ m ≤ cap ∧ m < topCap ∧ hi.isSome then
              match base with
              | none => some (.val (.slice none 0 0))
              | some a => if a.spot.isSome then none else some (.val (.slice (some (if m = l then a else ⟨a.block, a.off + l.toNat * s, none⟩)) (h - l).toNat (m - l).toNat))
            else none
          | none =>
            match base with
            | none => some (.val (.slice none 0 0))
            | some a =>
              if a.spot.isSome then none
              else if cap < topCap then
                if len ≤ cap then some (.val (.slice (some (if (cap : Int) = l then a else ⟨a.block, a.off + l.toNat * s, none⟩)) (h - l).toNat (cap - l.toNat))) else none
              else if cap = topCap + s then some (.val (.slice (some ⟨a.block, a.off + l.toNat * s, none⟩) (h - l).toNat cap))
              else none
        else none
      | _, _, _, _ => none
    | _, _ => none
  | .typeAssert x _ asserted ok => match P.underlying asserted, ev x with
    | some (.interface _), _ => none
    | some _, some (.iface t v) => if t = asserted then some (.val (if ok then .tuple #[v, .bool true] else v))
        else if ok then (zeroOf P asserted).map fun z => .val (.tuple #[z, .bool false]) else none
    | some _, some .nilIface => if ok then (zeroOf P asserted).map fun z => .val (.tuple #[z, .bool false]) else none
    | _, _ => none
  | .extract x i => match ev x with
    | some (.tuple vs) => (vs[i]?).map .val
    | _ => none
  | .build t parts => match zeroOf P t, P.underlying t, evParts ev parts.toList with
    | some z, some (.struct fields), some ps =>
      match Instr.fill (fun i => (fields[i]?).bind fun f => (szOf P f.type).map fun s => (f.offset, s)) z.cells ps with
      | some cells => if fields.all (fun f => (szOf P f.type).isSome) then some (.val (.agg cells)) else none
      | none => none
    | some z, some (.array _ e), some ps => match szOf P e with
      | some s => match Instr.fill (fun i => some (i * s, s)) z.cells ps with
        | some cells => some (.val (.agg cells))
        | none => none
      | none => none
    | _, _, _ => none
  | .call c => match c.callee with
    | .builtin .len => match c.argTypes[0]?, evs ev c.args.toList with
      | some t, some (x :: _) => match P.underlying t, x with
        | some .string, .string s => some (.val (goInt s.size))
        | some (.array n _), _ => some (.val (goInt n))
        | some (.slice _), .slice _ n _ => some (.val (goInt n))
        | some (.map _ _), .map none => some (.val (goInt 0))
        | _, _ => none
      | _, _ => none
    | .builtin .cap => match c.argTypes[0]?, evs ev c.args.toList with
      | some t, some (x :: _) => match P.underlying t, x with
        | some (.array n _), _ => some (.val (goInt n))
        | some (.slice _), .slice _ _ n => if n < topCap then some (.val (goInt n)) else none
        | _, _ => none
      | _, _ => none
    | .builtin .max => match evs ev c.args.toList with
      | some (.int k x :: .int k' y :: []) => if k = k' then some (.val (.int k (if y > x then y else x))) else none
      | _ => none
    | .builtin .min => match evs ev c.args.toList with
      | some (.int k x :: .int k' y :: []) => if k = k' then some (.val (.int k (if y < x then y else x))) else none
      | _ => none
    | _ => none
  | _ => none

/-- Operations that make a row of what they are given, and look at no memory. -/
def aMake (P : Program) (ev : Operand → Option Value) (o : Oper) : Option LR :=
  match o.op with
  | .alloc e => match zeroOf P e with
    | some z => some (.row z.cells.toList 0 none)
    | none => none
  | .box _ x => (ev x).map fun v => .row v.cells.toList 0 none
  | .buildSlice t len parts => match P.underlying t, evParts ev parts.toList with
    | some (.slice e), some ps => match szOf P e with
      | some s =>
        if len * s > 2 ^ 24 ∨ topCap ≤ len then none
        else match (if len * s = 0 then some #[] else (zeroOf P e).map (·.cells)) with
          | some zero => match Instr.fill (fun i => some (i * s, s)) ((Array.range (len * s)).map (zero[· % zero.size]!)) ps with
            | some cells => some (.row cells.toList s (some len))
            | none => none
          | none => none
      | none => none
    | _, _ => none
  | _ => none

/-- The value of a new row at b. -/
def LR.mk (b : Nat) : LR → Value
  | .row _ _ none => .pointer (some ⟨b, 0, none⟩)
  | .row _ _ (some n) => .slice (some ⟨b, 0, none⟩) n n

def aLoad (P : Program) (A : H) (t : TypeId) (x : Value) : Option Value :=
  match P.underlying t, szOf P t, x with
  | some d, some n, .pointer (some ⟨b, off, none⟩) =>
    if isAggD d then (A.read b off n).map fun cs => .agg cs.toArray
    else match A.read b off 1 with
      | some [v] => some v
      | _ => none
  | _, _, _ => none

def firstCells (A : H) (size n : Nat) : Value → Option (List Value)
  | .slice (some ⟨b, off, none⟩) len _ => if n ≤ len then A.read b off (n * size) else none
  | .slice none _ _ => if n = 0 then some [] else none
  | .string s => if size = 1 ∧ n ≤ s.size then some ((s.extract 0 n).data.toList.map fun b => .int .u8 b.toNat) else none
  | _ => none

def lenOf : Value → Option Nat
  | .slice _ n _ => some n
  | .string s => some s.size
  | _ => none

/-- s, and n cells' values behind it. -/
def aAppend (A : H) (size bytes : Nat) (s x : Value) : Option (Value × H) :=
  match s, lenOf x with
  | .slice base len cap, some n =>
    match firstCells A size n x with
    | some new =>
      if len + n ≤ cap ∧ cap < topCap then
        match base with
        | none => if n = 0 then some (.slice none (len + n) cap, A) else none
        | some ⟨b, off, none⟩ =>
          if n = 0 then some (.slice base len cap, A) else
          match A.write b (off + len * size) new with
          | some A' => some (.slice base (len + n) cap, A')
          | none => none
        | _ => none
      else if cap < topCap then
        -- it grows, for sure
        if (len + n) * bytes ≤ 2 ^ 40 ∧ bytes ≤ 2 ^ 20 ∧ 0 < bytes ∧ len ≤ cap ∧ 0 < size then
          match firstCells A size len s with
          | some old => some (.slice (some ⟨A.next, 0, none⟩) (len + n) (topCap + size), A.push (.row (old ++ new) size))
          | none => none
        else none
      else
        match base with
        | some ⟨b, off, none⟩ =>
          match A.get b with
          | some (.row cs esz) =>
            if cap = topCap + size ∧ esz = size ∧ 0 < size ∧ A.ro ≤ b ∧ off + len * size ≤ cs.length ∧ (len + n) * bytes ≤ 2 ^ 40 ∧ bytes ≤ 2 ^ 20 ∧ 0 < bytes ∧ new.all oneCell then
              some (.slice (some ⟨A.next, 0, none⟩) (len + n) (topCap + size), (A.kill b).push (.row ((cs.drop off).take (len * size) ++ new) size))
            else none
          | _ => none
        | _ => none
    | none => none
  | _, _ => none

def findInt (key : Value) : List MapEntry → Nat → Option (Option (Nat × Value))
  | [], _ => some none
  | e :: es, i => match flatEq key e.key with
    | some true => some (some (i, e.val))
    | some false => findInt key es (i + 1)
    | none => none

def keyKind : TypeDesc → Value → Bool
  | .int _, .int _ _ => true
  | .string, .string _ => true
  | .bool, .bool _ => true
  | _, _ => false

/-- An operation. -/
def aOp (P : Program) (callF : CallF) (ev : Operand → Option Value) (o : Oper) (A : H) : Option (OR × H) :=
  match o.op with
  | .load t x => match ev x with
    | some a => (aLoad P A t a).map fun v => (.val v, A)
    | none => none
  | .store t x y => match ev x, ev y, szOf P t with
    | some (.pointer (some ⟨b, off, none⟩)), some v, some n =>
      if v.cells.size = n then (A.write b off v.cells.toList).map fun A' => (.val undef, A') else none
    | _, _, _ => none
  | .alloc _ | .box .. | .buildSlice .. => match aMake P ev o with
    | some (.row cs esz l) => some (.val (LR.mk A.next (.row cs esz l)), A.push (.row cs esz))
    | _ => none
  | .makeMap _ none => some (.val (.map (some A.next)), A.push (.map [] 0))
  | .makeSlice t l c => match P.underlying t, ev l, ev c with
    | some (.slice e), some (.int .i64 l), some (.int .i64 c) => match P.info? e, zeroOf P e with
      | some i, some z =>
        if 0 ≤ l ∧ l ≤ c ∧ c ≤ 2 ^ 20 ∧ i.bytes ≤ 2 ^ 20 ∧ 0 < i.size ∧ z.cells.size = i.size then
          some (.val (.slice (some ⟨A.next, 0, none⟩) l.toNat c.toNat), A.push (.row ((Array.range (c.toNat * i.size)).map (z.cells[· % z.cells.size]!)).toList i.size))
        else none
      | _, _ => none
    | _, _, _ => none
  | .lookup t x k ok => match P.underlying t, ev x, ev k with
    | some (.map kt et), some m, some key => match P.underlying kt, zeroOf P et with
      | some kd, some z =>
        if keyKind kd key then
          let es : Option (List MapEntry) := match m with
            | .map none => some []
            | .map (some r) => match A.get r with
              | some (.map es _) => some es
              | _ => none
            | _ => none
          match es with
          | some es => match findInt key es 0 with
            | some (some (_, v)) => some (.val (if ok then .tuple #[v, .bool true] else v), A)
            | some none => some (.val (if ok then .tuple #[z, .bool false] else z), A)
            | none => none
          | none => none
        else none
      | _, _ => none
    | _, _, _ => none
  | .mapUpdate t m k x | .insert t m k x => match P.underlying t, ev m, ev k, ev x with
    | some (.map kt _), some (.map (some r)), some key, some v => match P.underlying kt, A.get r with
      | some kd, some (.map es clock) =>
        if keyKind kd key ∧ A.ro ≤ r then
          match findInt key es 0 with
          | some (some (i, _)) => some (.val undef, A.put r (.map (es.modify i fun e => { e with key, val := v }) clock))
          | some none => some (.val undef, A.put r (.map (es ++ [{ key, val := v, born := clock }]) (clock + 1)))
          | none => none
        else none
      | _, _ => none
    | _, _, _, _ => none
  | .call c => match c.callee with
    | .value f => match ev f, evs ev c.args.toList with
      | some (.func (.func g) first cap), some args =>
        match callF g (first.toList ++ args ++ cap.toList) A with
        | some (.ret v, A') => some (.val v, A')
        | some (.pan ch, A') => some (.pan ch, A')
        | none => none
      | some .nilFunc, some _ => some (nilDeref P, A)
      | _, _ => none
    | .builtin .append => match c.argTypes[0]?, evs ev c.args.toList with
      | some t, some (s :: x :: _) => match P.underlying t with
        | some (.slice e) => match P.info? e with
          | some i =>
            match (match c.argTypes[1]? with
              | some xt => match P.underlying xt with
                | some (.int _) => none
                | some _ => some ()
                | none => none
              | none => some ()) with
            | some () => match zeroOf P e with
              | some z => if z.cells.size = i.size then (aAppend A i.size i.bytes s x).map fun (v, A') => (.val v, A') else none
              | none => none
            | none => none
          | none => none
        | _ => none
      | _, _ => none
    | .builtin .copy => match c.argTypes[0]?, evs ev c.args.toList with
      | some t, some (.slice base dLen _ :: src :: _) => match P.underlying t, lenOf src with
        | some (.slice e), some sLen => match szOf P e with
          | some size =>
            let n := Nat.min sLen dLen
            match firstCells A size n src with
            | some cs => match base with
              | some ⟨b, off, none⟩ => if cs.isEmpty then some (.val (goInt n), A) else (A.write b off cs).map fun A' => (.val (goInt n), A')
              | none => if cs.isEmpty then some (.val (goInt n), A) else none
              | _ => none
            | none => none
          | none => none
        | _, _ => none
      | _, _ => none
    | .builtin .len => match c.argTypes[0]?, evs ev c.args.toList with
      | some t, some (.map (some r) :: _) => match P.underlying t, A.get r with
        | some (.map _ _), some (.map es _) => some (.val (goInt es.length), A)
        | _, _ => none
      | _, _ => (aLight P ev o).map fun r => (r, A)
    | _ => (aLight P ev o).map fun r => (r, A)
  | .defer c => match c.callee with
    | .value f => match ev f, evs ev c.args.toList with
      | some (.func (.func g) first cap), some args => some (.defer { target := .fn (.func g) cap, args := first ++ args.toArray }, A)
      | _, _ => none
    | _ => none
  | .panic x => match ev x with
    | some (.iface t v) => some (pan1 (.iface t v), A)
    | _ => none
  | _ => (aLight P ev o).map fun r => (r, A)

def yieldedA (ops : Array Oper) (a : Act) (j : Nat) : Option Bool :=
  match (ops[j]?).bind (·.dst) with
  | some t => match a.tm.get t with
    | some (.bool b) => some b
    | _ => none
  | none => none

/-- Is an operation wanted? None: it can't be told. -/
def wantedA (ops : Array Oper) (a : Act) (o : Oper) : Option Bool :=
  match o.guard with
  | none => some true
  | some (j, want) => match (ops[j]?).bind (·.dst) with
    | some t => match a.tm.get t with
      | some (.bool b) => some (b == want)
      | some _ => some false
      | none => none
    | none => none

/-- Operations one behind the other. -/
def aSeq (P : Program) (callF : CallF) (ops : Array Oper) : List Oper → Act → H → Option (AExit × Act × H)
  | [], a, A => some (.normal, a, A)
  | o :: rest, a, A =>
    match wantedA ops a o with
    | some true =>
      match aOp P callF (a.ev P) o A with
      | some (.val v, A') => match a.put o.dst v with
        | some a' => aSeq P callF ops rest a' A'
        | none => none
      | some (.defer d, A') => match (match a with | ⟨n, tm, ds⟩ => Act.mk n tm (d :: ds)).put o.dst undef with
        | some a' => aSeq P callF ops rest a' A'
        | none => none
      | some (.pan ch, A') => some (.panic ch, a, A')
      | none => none
    | some false => match a.put o.dst undef with
      | some a' => aSeq P callF ops rest a' A
      | none => none
    | none => none

/-- Does an operation write memory, make some by itself, call, or write a variable? These keep their order. -/
def heavy : Op → Bool
  | .call c => match c.callee with
    | .builtin .cap | .builtin .len | .builtin .min | .builtin .max => false
    | _ => true
  | .store .. | .assign .. | .mapUpdate .. | .insert .. | .lookup .. | .makeMap .. | .makeSlice .. | .defer .. | .panic .. => true
  | _ => false

/-- For each operation the operations that stand ahead of it, by the edges that bind in whatever order, as bits. -/
def aheadOf (acc : List Nat) (o : Oper) : Nat :=
  o.after.toList.foldl (fun s e => if Region.binds .any e then s ||| (2 ^ e.on ||| acc.getD e.on 0) else s) 0

def aheads : List Oper → List Nat → List Nat
  | [], acc => acc
  | o :: os, acc => aheads os (acc ++ [aheadOf acc o])

/-- A step of a plan: an operation's place, whether it is heavy, and from behind which heavy one on it may run. -/
structure Step where
  i : Nat
  heavy : Bool
  from_ : Nat

def planGo (ah : List Nat) (lights : List Nat) : List Nat → Nat → List Step
  | [], done => (lights.filter (!done.testBit ·)).map fun k => ⟨k, false, 0⟩
  | h :: hs, done =>
    let mine := lights.filter fun k => !done.testBit k && (ah.getD h 0).testBit k
    mine.map (fun k => ⟨k, false, 0⟩) ++ (⟨h, true, 0⟩ :: planGo ah lights hs (mine.foldl (fun s k => s ||| 2 ^ k) done))

def plan (ops : List Oper) : List Step :=
  let ah := aheads ops []
  let idx := List.range ops.length
  let hs := idx.filter fun i => heavy (ops.getD i default).op
  let ls := idx.filter fun i => !heavy (ops.getD i default).op
  (planGo ah ls hs 0).map fun s => { s with from_ := (hs.filter fun h => (ah.getD s.i 0).testBit h).length }

def opTmps (o : Oper) : List Tmp := o.op.operands.toList.filterMap fun | .tmp t => some t | _ => none

/-- Each step of a plan stands behind all that must stand ahead of it. -/
def planOrder (ops : List Oper) (ah : List Nat) : Nat → List Step → Bool
  | _, [] => true
  | seen, s :: rest =>
    let m := ah.getD s.i 0
    (m &&& seen == m) && !seen.testBit s.i && (s.heavy == heavy (ops.getD s.i default).op) &&
    (match (ops.getD s.i default).guard with
      | none => true
      | some (g, _) => m.testBit g) &&
    planOrder ops ah (seen ||| 2 ^ s.i) rest

/-- A light step stands as late as it can (all heavy ones behind it wait for it), and behind the first so many heavy ones, that are ahead of it; heavy ones keep their order. -/
def planLate (ah : List Nat) : List Nat → List Step → Bool
  | _, [] => true
  | hs, s :: rest =>
    decide (s.from_ ≤ hs.length) && ((hs.take s.from_).all fun h => (ah.getD s.i 0).testBit h) &&
    ((rest.filter (·.heavy)).all fun h => (ah.getD h.i 0).testBit s.i) &&
    planLate ah (if s.heavy then hs ++ [s.i] else hs) rest

def dstsApart : List Oper → Nat → Bool
  | [], _ => true
  | o :: os, seen => match o.dst with
    | none => dstsApart os seen
    | some d => !seen.testBit d && dstsApart os (seen ||| 2 ^ d)

/-- Each edge that binds leads back. -/
def edgesBack : List Oper → Nat → Bool
  | [], _ => true
  | o :: os, i => o.after.toList.all (fun e => !Region.binds .any e || decide (e.on < i)) && edgesBack os (i + 1)

/-- Is a plan one that answers for every order? -/
def planOk (ops : List Oper) (p : List Step) : Bool :=
  let ah := aheads ops []
  p.length == ops.length && edgesBack ops 0 && p.all (fun s => s.i < ops.length) && (List.range ops.length).all (fun k => p.any (·.i == k)) && planOrder ops ah 0 p && planLate ah [] p && dstsApart ops 0 &&
  (ops.zipIdx.all fun (o, k) => (opTmps o).all fun t => ops.zipIdx.all fun (o', j) => j == k || !(o'.dst == some t) || (ah.getD k 0).testBit j || (ah.getD j 0).testBit k) &&
  ops.all (fun o => match o.op with | .defer .. => false | .select .. => false | _ => true)

/-- A test of values: two that pass are the same. -/
def sameVal : Nat → Value → Value → Bool
  | _, .bool a, .bool b => a == b
  | _, .int j a, .int k b => j == k && a == b
  | _, .string a, .string b => a.data.toList == b.data.toList
  | _, .pointer a, .pointer b => a == b
  | _, .slice a n c, .slice b m d => a == b && n == m && c == d
  | _, .map a, .map b => a == b
  | _, .nilFunc, .nilFunc => true
  | _, .nilIface, .nilIface => true
  | n + 1, .iface t v, .iface u w => t == u && sameVal n v w
  | n + 1, .agg a, .agg b => a.toList.length == b.toList.length && (a.toList.zip b.toList).all fun (x, y) => sameVal n x y
  | n + 1, .tuple a, .tuple b => a.toList.length == b.toList.length && (a.toList.zip b.toList).all fun (x, y) => sameVal n x y
  | n + 1, .func (.func f) a b, .func (.func g) c d => f == g && (a.toList.length == c.toList.length && (a.toList.zip c.toList).all fun (x, y) => sameVal n x y) &&
      (b.toList.length == d.toList.length && (b.toList.zip d.toList).all fun (x, y) => sameVal n x y)
  | _, _, _ => false

/-- The slots of an operation's own operands, and no others. -/
def evFor (P : Program) (o : Oper) (a : Act) : Operand → Option Value
  | .tmp t => if (opTmps o).contains t then a.tm.get t else none
  | x => a.ev P x

/-- A state on the way through a plan: the heap is told behind each heavy operation; if one of them panicked, with what, and which one. -/
structure St where
  a : Act
  A : H
  hs : List H
  pan : Option (List PanicEntry × H × Nat)

def St.set (st : St) (o : Oper) (v : Value) (A : H) (hs : List H) : Option St :=
  match st.a.put o.dst v with
  | some a' => match st with
    | ⟨_, _, _, pan⟩ => some ⟨a', A, hs, pan⟩
  | none => none

/-- A step of a plan. -/
def dStep (P : Program) (eqv : Value → Value → Bool) (callF : CallF) (opsA : Array Oper) (ah : List Nat) (base : Nat) (s : Step) (st : St) : Option St :=
  match opsA.toList[s.i]? with
  | none => none
  | some o =>
    if (match st.pan with | some (_, _, h) => s.heavy || (ah.getD s.i 0).testBit h | none => false) then some st else
    match wantedA opsA st.a o with
    | none => none
    | some false => st.set o undef st.A (if s.heavy then st.hs ++ [st.A] else st.hs)
    | some true =>
      if s.heavy then
        match aOp P callF (evFor P o st.a) o st.A with
        | some (.val v, A') => st.set o v A' (st.hs ++ [A'])
        | some (.pan ch, A') => (match st with | ⟨a, A, hs, _⟩ => some ⟨a, A, hs, some (ch, A', s.i)⟩)
        | _ => none
      else
        match o.op with
        | .load t x => match evFor P o st.a x with
          | some p => match aLoad P st.A t p with
            | some v =>
              if (st.hs.drop s.from_).all fun B => (match aLoad P B t p with | some u => eqv v u | none => false) then st.set o v st.A st.hs else none
            | none => none
          | none => none
        | .alloc _ | .box .. | .buildSlice .. => match aMake P (evFor P o st.a) o with
          | some (.row cs esz l) => st.set o (LR.mk (base + s.i) (.row cs esz l)) (st.A.put (base + s.i) (.row cs esz)) st.hs
          | none => none
        | _ => match aLight P (evFor P o st.a) o with
          | some (.val v) => st.set o v st.A st.hs
          | _ => none

def dRun (P : Program) (eqv : Value → Value → Bool) (callF : CallF) (opsA : Array Oper) (ah : List Nat) (base : Nat) : List Step → St → Option St
  | [], st => some st
  | s :: rest, st => match dStep P eqv callF opsA ah base s st with
    | some st' => dRun P eqv callF opsA ah base rest st'
    | none => none

/-- The operations of a region whose order is drawn, by a plan. -/
def aDraw (P : Program) (eqv : Value → Value → Bool) (callF : CallF) (ops : Array Oper) (a : Act) (A : H) : Option (AExit × Act × H) :=
  let p := plan ops.toList
  if planOk ops.toList p then
    let A0 : H := match A with | ⟨n, o, t⟩ => ⟨n + ops.toList.length, o, t⟩
    match dRun P eqv callF ops (aheads ops.toList []) A.next p { a, A := A0, hs := [A0], pan := none } with
    | some { a := a', A := A', pan := none, .. } => some (.normal, a', A')
    | some { pan := some (ch, A', _), .. } => some (.panic ch, (match a with | ⟨n, tm, ds⟩ => ⟨n, tm.eraseAll (ops.toList.filterMap (·.dst)), ds⟩), A')
    | none => none
  else none

def aRegion (P : Program) (eqv : Value → Value → Bool) (callF : CallF) (ops : Array Oper) (draw : Bool) (a : Act) (A : H) : Option (AExit × Act × H) :=
  if draw then aDraw P eqv callF ops a A else aSeq P callF ops ops.toList a A

def aCode (P : Program) (eqv : Value → Value → Bool) (callF : CallF) : Nat → Code → Act → H → Option (AExit × Act × H)
  | 0, _, _, _ => none
  | n + 1, c, a, A =>
    match c with
    | .skip => some (.normal, a, A)
    | .label _ => some (.normal, a, A)
    | .region _ ops draw => aRegion P eqv callF ops draw a A
    | .seq x y => match aCode P eqv callF n x a A with
      | some (.normal, a', A') => aCode P eqv callF n y a' A'
      | r => r
    | .cond x t e => match a.ev P x with
      | some (.bool true) => aCode P eqv callF n t a A
      | some (.bool false) => aCode P eqv callF n e a A
      | _ => none
    | .block id b => match aCode P eqv callF n b a A with
      | some (.exit i, a', A') => if i = id then some (.normal, a', A') else some (.exit i, a', A')
      | r => r
    | .loop b => match aCode P eqv callF n b a A with
      | some (.normal, a', A') => aCode P eqv callF n (.loop b) a' A'
      | r => r
    | .exit id => some (.exit id, a, A)
    | .scope b => match aCode P eqv callF n b a A with
      | some (.goto _, _, _) => none
      | r => r
    | .ret => some (.ret, a, A)
    | _ => none

def recA : FrameMode → Value × FrameMode
  | .panicking ({ v, recovered := false, goexit := false } :: older) => (v, .panicking ({ v, recovered := true } :: older))
  | u => (.nilIface, u)

def isRecover : Op → Bool
  | .call { callee := .builtin .recover, args, .. } => args.toList.isEmpty
  | _ => false

/-- Operations of a deferred function, that may recover. -/
def aSeqD (P : Program) (callF : CallF) (ops : Array Oper) : List Oper → Act → FrameMode → H → Option (AExit × Act × FrameMode × H)
  | [], a, u, A => some (.normal, a, u, A)
  | o :: rest, a, u, A =>
    match wantedA ops a o with
    | some true =>
      if isRecover o.op then
        match a.put o.dst (recA u).1 with
        | some a' => aSeqD P callF ops rest a' (recA u).2 A
        | none => none
      else match aOp P callF (a.ev P) o A with
        | some (.val v, A') => match a.put o.dst v with
          | some a' => aSeqD P callF ops rest a' u A'
          | none => none
        | some (.pan ch, A') => some (.panic ch, a, u, A')
        | _ => none
    | some false => match a.put o.dst undef with
      | some a' => aSeqD P callF ops rest a' u A
      | none => none
    | none => none

def aCodeD (P : Program) (eqv : Value → Value → Bool) (callF : CallF) : Nat → Code → Act → FrameMode → H → Option (AExit × Act × FrameMode × H)
  | 0, _, _, _, _ => none
  | n + 1, c, a, u, A =>
    match c with
    | .region _ ops false => aSeqD P callF ops ops.toList a u A
    | .seq x y => match aCodeD P eqv callF n x a u A with
      | some (.normal, a', u', A') => aCodeD P eqv callF n y a' u' A'
      | r => r
    | .cond x t e => match a.ev P x with
      | some (.bool true) => aCodeD P eqv callF n t a u A
      | some (.bool false) => aCodeD P eqv callF n e a u A
      | _ => none
    | .block id b => match aCodeD P eqv callF n b a u A with
      | some (.exit i, a', u', A') => if i = id then some (.normal, a', u', A') else some (.exit i, a', u', A')
      | r => r
    | c => match aCode P eqv callF n c a A with
      | some (e, a', A') => some (e, a', u, A')
      | none => none

def aResults (P : Program) (a : Act) (A : H) : List ResultVar → Option (List Value)
  | [] => some []
  | .tmp t :: rs => match a.tm.get t, aResults P a A rs with
    | some v, some vs => some (v :: vs)
    | _, _ => none
  | .cell x t :: rs => match a.tm.get x with
    | some p => match aLoad P A t p, aResults P a A rs with
      | some v, some vs => some (v :: vs)
      | _, _ => none
    | none => none

def tupled : List Value → Value
  | [v] => v
  | vs => .tuple vs.toArray

def initAct (fn : Func) (args : List Value) : Act := { n := max args.length fn.ntmps, tm := T.nil.setFrom 0 args, defers := [] }

abbrev CallD := FuncId → List Value → FrameMode → H → Option (AEnd × FrameMode × H)

def aLeave (P : Program) (callD : CallD) (fn : Func) (a : Act) : List Deferred → FrameMode → H → Option (AEnd × H)
  | [], .returning, A => (aResults P a A fn.results.toList).map fun vs => (.ret (tupled vs), A)
  | [], .panicking ch, A => some (.pan ch, A)
  | [], .run, _ => none
  | d :: ds, u, A =>
    match d.target with
    | .fn (.func g) cap =>
      match callD g (d.args.toList ++ cap.toList) u A with
      | some (.ret _, u', A') => aLeave P callD fn a ds (settle u') A'
      | some (.pan ch, u', A') => aLeave P callD fn a ds (raised u' ch) A'
      | none => none
    | _ => none

/-- A function that can be entered. -/
def funOf (P : Program) (f : FuncId) : Option (Func × Code) :=
  match P.funcs[f]? with
  | some fn => match fn.body with
    | some c => if fn.name == "runtime.NumGoroutine" then none else some (fn, c)
    | none => none
  | none => none

def aDeferred (P : Program) (eqv : Value → Value → Bool) (callF : CallF) (n : Nat) : CallD := fun g args u A =>
  match funOf P g with
  | some (fn, c) =>
    match u with
    | .run => none
    | _ => match aCodeD P eqv callF n c (initAct fn args) u A with
      | some (.normal, a, u', A') => if a.defers.isEmpty then (aResults P a A' fn.results.toList).map fun vs => (.ret (tupled vs), u', A') else none
      | some (.ret, a, u', A') => if a.defers.isEmpty then (aResults P a A' fn.results.toList).map fun vs => (.ret (tupled vs), u', A') else none
      | some (.panic ch, a, u', A') => if a.defers.isEmpty then some (.pan ch, u', A') else none
      | _ => none
  | none => none

/-- A call, by what other calls come to. -/
def aBody (P : Program) (eqv : Value → Value → Bool) (callF : CallF) (n : Nat) : CallF := fun f args A =>
  match funOf P f with
  | some (fn, c) =>
    match aCode P eqv callF n c (initAct fn args) A with
    | some (.normal, a, A') => aLeave P (aDeferred P eqv callF n) fn a a.defers .returning A'
    | some (.ret, a, A') => aLeave P (aDeferred P eqv callF n) fn a a.defers .returning A'
    | some (.panic ch, a, A') => aLeave P (aDeferred P eqv callF n) fn a a.defers (.panicking ch) A'
    | _ => none
  | none => none

/-- Calls: what is known is told; the others are gone through. -/
def aCallK (P : Program) (eqv : Value → Value → Bool) (K : CallF) : Nat → CallF
  | 0 => fun _ _ _ => none
  | n + 1 => fun f args A => match K f args A with
    | some r => some r
    | none => aBody P eqv (aCallK P eqv K n) n f args A

def aCall (P : Program) (eqv : Value → Value → Bool) (n : Nat) : CallF := aCallK P eqv (fun _ _ _ => none) n

/-! Calls whose ends are known. -/

structure Known where
  f : FuncId
  args : List Value
  pre : List (Nat × Blk)
  nx : Nat
  ro : Nat
  e : AEnd
  post : List (Nat × Blk)
  nx' : Nat

def sameVals (l m : List Value) : Bool := l.length == m.length && (l.zip m).all fun (x, y) => sameVal 8 x y

def sameBlk : Blk → Blk → Bool
  | .row a s, .row b t => s == t && sameVals a b
  | .map a s, .map b t => s == t && sameVals (a.map (·.key)) (b.map (·.key)) && sameVals (a.map (·.val)) (b.map (·.val)) && (a.map (·.born) == b.map (·.born))
  | _, _ => false

def sameEnd : AEnd → AEnd → Bool
  | .ret v, .ret w => sameVal 8 v w
  | .pan a, .pan b => sameVals (a.map (·.v)) (b.map (·.v)) && (a.map (·.recovered) == b.map (·.recovered)) && (a.map (·.goexit) == b.map (·.goexit))
  | _, _ => false

def putAll : List (Nat × Blk) → H → H
  | [], A => A
  | (b, B) :: l, A => putAll l (A.put b B)

def holds (A : H) (l : List (Nat × Blk)) : Bool := l.all fun (b, B) => match A.get b with
  | some B' => sameBlk B' B
  | none => false

def Known.start (k : Known) : H := putAll k.pre { next := k.nx, ro := k.ro, blks := T.nil }

/-- Does a call come to what is known of it? -/
def Known.runs (k : Known) (callF : CallF) : Bool := match callF k.f k.args k.start with
  | some (e, A') => sameEnd e k.e && A'.next == k.nx' && A'.ro == k.ro && holds A' k.post
  | none => false

def knownF (K : List Known) : CallF := fun f args A =>
  match K.find? (fun k => k.f == f && k.nx == A.next) with
  | some k =>
    if k.ro == A.ro && sameVals args k.args && holds A k.pre then
      some (k.e, putAll k.post (match A with | ⟨_, o, t⟩ => ⟨k.nx', o, t.eraseAll (k.pre.map (·.1))⟩))
    else none
  | none => none

end
end Go.Ab

namespace Go.Ab

namespace T
variable {α : Type}
theorem nbeq {a b : Nat} (h : a = b) : Nat.beq a b = true := by subst h; exact Nat.beq_refl a
theorem get_nil (n : Nat) : (T.nil : T α).get n = none := rfl
theorem get_node (l : T α) (v : Option α) (r : T α) (n : Nat) : (T.node l v r).get n = if n = 0 then v else if n % 2 = 1 then l.get ((n - 1) / 2) else r.get ((n - 1) / 2) := by
  have e : (T.node l v r).get n = Bool.rec (motive := fun _ => Option α) (Bool.rec (motive := fun _ => Option α) (r.get (Nat.div (Nat.sub n 1) 2)) (l.get (Nat.div (Nat.sub n 1) 2)) (Nat.beq (Nat.mod n 2) 1)) v (Nat.beq n 0) := rfl
  rw [e]
  by_cases h : n = 0
  · rw [if_pos h, show Nat.beq n 0 = true from nbeq h]
  · rw [if_neg h]
    have h0 : Nat.beq n 0 = false := by cases hb : Nat.beq n 0 with | false => rfl | true => exact absurd (Nat.eq_of_beq_eq_true hb) h
    rw [h0]
    by_cases h' : n % 2 = 1
    · rw [if_pos h', show Nat.beq (Nat.mod n 2) 1 = true from nbeq h']; rfl
    · rw [if_neg h']
      have h1 : Nat.beq (Nat.mod n 2) 1 = false := by cases hb : Nat.beq (Nat.mod n 2) 1 with | false => rfl | true => exact absurd (Nat.eq_of_beq_eq_true hb) h'
      rw [h1]; rfl

theorem get_node_zero (l : T α) (v : Option α) (r : T α) : (T.node l v r).get 0 = v := rfl
theorem get_node_even (l : T α) (v : Option α) (r : T α) (m : Nat) (h : m % 2 = 0) : (T.node l v r).get (m + 1) = l.get (m / 2) := by
  rw [get_node, if_neg (by omega), if_pos (by omega)]; rfl
theorem get_node_odd (l : T α) (v : Option α) (r : T α) (m : Nat) (h : m % 2 = 1) : (T.node l v r).get (m + 1) = r.get (m / 2) := by
  rw [get_node, if_neg (by omega), if_neg (by omega)]; rfl

theorem setF_node (f : Nat) (l : T α) (v : Option α) (r : T α) (n : Nat) (x : Option α) : setF (f + 1) (.node l v r) n x = if n = 0 then .node l x r else if n % 2 = 1 then .node (setF f l ((n - 1) / 2) x) v r else .node l v (setF f r ((n - 1) / 2) x) := by
  have e : setF (f + 1) (.node l v r) n x = Bool.rec (motive := fun _ => T α) (Bool.rec (motive := fun _ => T α) (.node l v (setF f r (Nat.div (Nat.sub n 1) 2) x)) (.node (setF f l (Nat.div (Nat.sub n 1) 2) x) v r) (Nat.beq (Nat.mod n 2) 1)) (.node l x r) (Nat.beq n 0) := rfl
  rw [e]
  by_cases h : n = 0
  · rw [if_pos h, show Nat.beq n 0 = true from nbeq h]
  · rw [if_neg h]
    have h0 : Nat.beq n 0 = false := by cases hb : Nat.beq n 0 with | false => rfl | true => exact absurd (Nat.eq_of_beq_eq_true hb) h
    rw [h0]
    by_cases h' : n % 2 = 1
    · rw [if_pos h', show Nat.beq (Nat.mod n 2) 1 = true from nbeq h']; rfl
    · rw [if_neg h']
      have h1 : Nat.beq (Nat.mod n 2) 1 = false := by cases hb : Nat.beq (Nat.mod n 2) 1 with | false => rfl | true => exact absurd (Nat.eq_of_beq_eq_true hb) h'
      rw [h1]; rfl

theorem setF_nil (f : Nat) (n : Nat) (x : Option α) : setF (f + 1) .nil n x = setF (f + 1) (.node .nil none .nil) n x := rfl

theorem get_setF : ∀ (f : Nat) (t : T α) (n : Nat) (x : Option α) (m : Nat), n < f → (setF f t n x).get m = if m = n then x else t.get m := by
  intro f
  induction f with
  | zero => intro t n x m h; omega
  | succ f ih =>
    intro t n x m h
    have key : ∀ (l : T α) (v : Option α) (r : T α), (setF (f + 1) (.node l v r) n x).get m = if m = n then x else (T.node l v r).get m := by
      intro l v r
      cases n with
      | zero =>
        rw [setF_node, if_pos rfl]
        cases m with
        | zero => rfl
        | succ m => rw [get_node, get_node, if_neg (Nat.succ_ne_zero m), if_neg (Nat.succ_ne_zero m), if_neg (Nat.succ_ne_zero m)]
      | succ n =>
        rcases Nat.mod_two_eq_zero_or_one n with hn | hn
        · have e : setF (f + 1) (.node l v r) (n + 1) x = .node (setF f l (n / 2) x) v r := by rw [setF_node, if_neg (by omega), if_pos (by omega)]; rfl
          rw [e]
          cases m with
          | zero => rfl
          | succ m =>
            rcases Nat.mod_two_eq_zero_or_one m with hm | hm
            · rw [get_node_even _ _ _ _ hm, get_node_even _ _ _ _ hm, ih _ _ _ _ (by omega)]
              by_cases hmn : m = n
              · subst hmn; simp
              · rw [if_neg (by omega), if_neg (by omega)]
            · rw [get_node_odd _ _ _ _ hm, get_node_odd _ _ _ _ hm, if_neg (by omega)]
        · have e : setF (f + 1) (.node l v r) (n + 1) x = .node l v (setF f r (n / 2) x) := by rw [setF_node, if_neg (by omega), if_neg (by omega)]; rfl
          rw [e]
          cases m with
          | zero => rfl
          | succ m =>
            rcases Nat.mod_two_eq_zero_or_one m with hm | hm
            · rw [get_node_even _ _ _ _ hm, get_node_even _ _ _ _ hm, if_neg (by omega)]
            · rw [get_node_odd _ _ _ _ hm, get_node_odd _ _ _ _ hm, ih _ _ _ _ (by omega)]
              by_cases hmn : m = n
              · subst hmn; simp
              · rw [if_neg (by omega), if_neg (by omega)]
    cases t with
    | node l v r => exact key l v r
    | nil =>
      rw [setF_nil, key]
      have : (T.node (.nil : T α) none .nil).get m = T.nil.get m := by
        cases m with
        | zero => rfl
        | succ m =>
          rcases Nat.mod_two_eq_zero_or_one m with hm | hm
          · rw [get_node_even _ _ _ _ hm, get_nil, get_nil]
          · rw [get_node_odd _ _ _ _ hm, get_nil, get_nil]
      rw [this]

theorem get_set (t : T α) (n : Nat) (x : α) (m : Nat) : (t.set n x).get m = if m = n then some x else t.get m := get_setF _ _ _ _ _ (by omega)
theorem get_erase (t : T α) (n m : Nat) : (t.erase n).get m = if m = n then none else t.get m := get_setF _ _ _ _ _ (by omega)
theorem get_eraseAll : ∀ (l : List Nat) (t : T α) (m : Nat), (t.eraseAll l).get m = if m ∈ l then none else t.get m := by
  intro l
  induction l with
  | nil => intro t m; simp [eraseAll]
  | cons n ns ih =>
    intro t m
    rw [eraseAll, ih, get_erase]
    by_cases h : m ∈ ns <;> by_cases h' : m = n <;> simp [h, h']
theorem get_setFrom : ∀ (l : List α) (t : T α) (i m : Nat), (t.setFrom i l).get m = if i ≤ m then (match l[m - i]? with | some x => some x | none => t.get m) else t.get m := by
  intro l
  induction l with
  | nil => intro t i m; simp [setFrom]
  | cons x xs ih =>
    intro t i m
    rw [setFrom, ih, get_set]
    by_cases h : i + 1 ≤ m
    · have h1 : i ≤ m := by omega
      have h2 : m ≠ i := by omega
      have h3 : m - i = (m - (i + 1)) + 1 := by omega
      simp only [h, h1, h2, if_true, if_false, h3, List.getElem?_cons_succ]
    · rw [if_neg h]
      by_cases h' : m = i
      · subst h'; simp
      · rw [if_neg h', if_neg (by omega)]
end T

/-- Where an abstract block lies: the block, from which cell on, of how many cells an element is (if it may grow), how many cells the block has. -/
structure Loc where
  blk : Nat
  off0 : Nat
  esz : Nat
  tot : Nat

abbrev Rho := Nat → Option Loc

mutual
inductive VR (ρ : Rho) : Value → Value → Prop
  | bool (b : Bool) : VR ρ (.bool b) (.bool b)
  | int (k : IntKind) (n : Int) : VR ρ (.int k n) (.int k n)
  | float (k : FloatKind) (n : Nat) : VR ρ (.float k n) (.float k n)
  | complex (k : FloatKind) (n m : Nat) : VR ρ (.complex k n m) (.complex k n m)
  | string (s : ByteArray) : VR ρ (.string s) (.string s)
  | ptrNil : VR ρ (.pointer none) (.pointer none)
  | ptr (b off : Nat) (L : Loc) : ρ b = some L → VR ρ (.pointer (some ⟨b, off, none⟩)) (.pointer (some ⟨L.blk, L.off0 + off, none⟩))
  | sliceNil : VR ρ (.slice none 0 0) (.slice none 0 0)
  | sliceEmpty (a a' : Addr) : VR ρ (.slice (some a) 0 0) (.slice (some a') 0 0)
  | slice (b off len cap : Nat) (L : Loc) : cap < topCap → ρ b = some L → VR ρ (.slice (some ⟨b, off, none⟩) len cap) (.slice (some ⟨L.blk, L.off0 + off, none⟩) len cap)
  | sliceTop (b off len cap : Nat) (L : Loc) : ρ b = some L → len ≤ cap → L.off0 + off + cap * L.esz = L.tot →
      VR ρ (.slice (some ⟨b, off, none⟩) len (topCap + L.esz)) (.slice (some ⟨L.blk, L.off0 + off, none⟩) len cap)
  | sliceTopEmpty (a a' : Addr) (n : Nat) : VR ρ (.slice (some a) 0 (topCap + n)) (.slice (some a') 0 0)
  | mapNil : VR ρ (.map none) (.map none)
  | map (r : Nat) (L : Loc) : ρ r = some L → VR ρ (.map (some r)) (.map (some L.blk))
  | chanNil : VR ρ (.chan none) (.chan none)
  | func (fn : Fn) (f f' c c' : Array Value) : VRs ρ f.toList f'.toList → VRs ρ c.toList c'.toList → VR ρ (.func fn f c) (.func fn f' c')
  | nilFunc : VR ρ .nilFunc .nilFunc
  | iface (t : TypeId) (v v' : Value) : VR ρ v v' → VR ρ (.iface t v) (.iface t v')
  | nilIface : VR ρ .nilIface .nilIface
  | agg (cs cs' : Array Value) : VRs ρ cs.toList cs'.toList → VR ρ (.agg cs) (.agg cs')
  | tuple (cs cs' : Array Value) : VRs ρ cs.toList cs'.toList → VR ρ (.tuple cs) (.tuple cs')
inductive VRs (ρ : Rho) : List Value → List Value → Prop
  | nil : VRs ρ [] []
  | cons (v v' : Value) (vs vs' : List Value) : VR ρ v v' → VRs ρ vs vs' → VRs ρ (v :: vs) (v' :: vs')
end

def Sub (ρ ρ' : Rho) : Prop := ∀ b L, ρ b = some L → ρ' b = some L

theorem Sub.refl (ρ : Rho) : Sub ρ ρ := fun _ _ h => h
theorem Sub.trans {a b c : Rho} (h : Sub a b) (k : Sub b c) : Sub a c := fun x L e => k x L (h x L e)

mutual
theorem VR.mono {ρ ρ' : Rho} (hs : Sub ρ ρ') {v v' : Value} : VR ρ v v' → VR ρ' v v'
  | .bool b => .bool b
  | .int k n => .int k n
  | .float k n => .float k n
  | .complex k n m => .complex k n m
  | .string s => .string s
  | .ptrNil => .ptrNil
  | .ptr b off L h => .ptr b off L (hs _ _ h)
  | .sliceNil => .sliceNil
  | .sliceEmpty a a' => .sliceEmpty a a'
  | .slice b off len cap L hc h => .slice b off len cap L hc (hs _ _ h)
  | .sliceTop b off len cap L h hl hx => .sliceTop b off len cap L (hs _ _ h) hl hx
  | .sliceTopEmpty a a' n => .sliceTopEmpty a a' n
  | .mapNil => .mapNil
  | .map r L h => .map r L (hs _ _ h)
  | .chanNil => .chanNil
  | .func fn f f' c c' h1 h2 => .func fn f f' c c' (VRs.mono hs h1) (VRs.mono hs h2)
  | .nilFunc => .nilFunc
  | .iface t v v' h => .iface t v v' (VR.mono hs h)
  | .nilIface => .nilIface
  | .agg cs cs' h => .agg cs cs' (VRs.mono hs h)
  | .tuple cs cs' h => .tuple cs cs' (VRs.mono hs h)
theorem VRs.mono {ρ ρ' : Rho} (hs : Sub ρ ρ') {v v' : List Value} : VRs ρ v v' → VRs ρ' v v'
  | .nil => .nil
  | .cons v v' vs vs' h1 h2 => .cons v v' vs vs' (VR.mono hs h1) (VRs.mono hs h2)
end

theorem VRs.length {ρ : Rho} : ∀ {l l' : List Value}, VRs ρ l l' → l.length = l'.length
  | [], _, h => by cases h; rfl
  | _ :: _, _, h => by cases h with | cons _ _ _ _ _ h2 => simp [VRs.length h2]

theorem VRs.get {ρ : Rho} : ∀ {l l' : List Value}, VRs ρ l l' → ∀ {i : Nat} {v : Value}, l[i]? = some v → ∃ v', l'[i]? = some v' ∧ VR ρ v v'
  | [], _, _, i, v, hv => by simp at hv
  | x :: xs, _, h, i, v, hv => by
    cases h with
    | cons _ y _ ys h1 h2 =>
      cases i with
      | zero => simp at hv; subst hv; exact ⟨y, rfl, h1⟩
      | succ i => simpa using VRs.get h2 (by simpa using hv)

theorem VRs.of_get {ρ : Rho} : ∀ {l l' : List Value}, l.length = l'.length → (∀ (i : Nat) (v : Value), l[i]? = some v → ∃ v', l'[i]? = some v' ∧ VR ρ v v') → VRs ρ l l'
  | [], [], _, _ => .nil
  | [], _ :: _, h, _ => by simp at h
  | _ :: _, [], h, _ => by simp at h
  | x :: xs, y :: ys, h, hg => by
    obtain ⟨v', hv', hr⟩ := hg 0 x rfl
    simp at hv'
    subst hv'
    exact .cons _ _ _ _ hr (VRs.of_get (by simpa using h) fun i v hi => by simpa using hg (i + 1) v (by simpa using hi))

theorem VRs.append {ρ : Rho} {a b a' b' : List Value} (h : VRs ρ a a') (k : VRs ρ b b') : VRs ρ (a ++ b) (a' ++ b') := by
  induction a generalizing a' with
  | nil => cases h; exact k
  | cons x xs ih => cases h with | cons _ y _ ys h1 h2 => exact .cons _ _ _ _ h1 (ih h2)

theorem VRs.take {ρ : Rho} {a a' : List Value} (h : VRs ρ a a') (n : Nat) : VRs ρ (a.take n) (a'.take n) := by
  induction n generalizing a a' with
  | zero => simp; exact .nil
  | succ n ih => cases h with
    | nil => exact .nil
    | cons _ _ _ _ h1 h2 => exact .cons _ _ _ _ h1 (ih h2)

theorem VRs.drop {ρ : Rho} {a a' : List Value} (h : VRs ρ a a') (n : Nat) : VRs ρ (a.drop n) (a'.drop n) := by
  induction n generalizing a a' with
  | zero => exact h
  | succ n ih => cases h with
    | nil => exact .nil
    | cons _ _ _ _ h1 h2 => exact ih h2

theorem VR.refl1 (ρ : Rho) {v : Value} (h : plain1 v = true) : VR ρ v v := by
  unfold plain1 at h
  split at h <;> first | constructor | cases h

theorem VRs.refl1 (ρ : Rho) : ∀ {l : List Value}, l.all plain1 = true → VRs ρ l l
  | [], _ => .nil
  | x :: xs, h => by
    simp only [List.all_cons, Bool.and_eq_true] at h
    exact .cons _ _ _ _ (VR.refl1 ρ h.1) (VRs.refl1 ρ h.2)

theorem VR.refl (ρ : Rho) {v : Value} (h : plain v = true) : VR ρ v v := by
  unfold plain at h
  split at h
  · exact .agg _ _ (VRs.refl1 ρ h)
  · exact VR.refl1 ρ h

/-- One cell against one cell. -/
theorem VR.oneCell {ρ : Rho} {v v' : Value} (h : VR ρ v v') : Ab.oneCell v = Ab.oneCell v' := by
  cases h <;> rfl

theorem VRs.oneCells {ρ : Rho} {v v' : List Value} (h : VRs ρ v v') : v.all Ab.oneCell = v'.all Ab.oneCell := by
  induction v generalizing v' with
  | nil => cases h; rfl
  | cons x xs ih => cases h with | cons _ _ _ _ h1 h2 => simp [h1.oneCell, ih h2]

theorem VR.cells {ρ : Rho} {v v' : Value} (h : VR ρ v v') : VRs ρ v.cells.toList v'.cells.toList := by
  cases h with
  | agg cs cs' h => exact h
  | bool b => exact .cons _ _ _ _ (.bool b) .nil
  | int k n => exact .cons _ _ _ _ (.int k n) .nil
  | float k n => exact .cons _ _ _ _ (.float k n) .nil
  | complex k n m => exact .cons _ _ _ _ (.complex k n m) .nil
  | string s => exact .cons _ _ _ _ (.string s) .nil
  | ptrNil => exact .cons _ _ _ _ .ptrNil .nil
  | ptr b off L h => exact .cons _ _ _ _ (.ptr b off L h) .nil
  | sliceNil => exact .cons _ _ _ _ .sliceNil .nil
  | sliceEmpty a a' => exact .cons _ _ _ _ (.sliceEmpty a a') .nil
  | slice b off len cap L hc h => exact .cons _ _ _ _ (.slice b off len cap L hc h) .nil
  | sliceTop b off len cap L h hl hx => exact .cons _ _ _ _ (.sliceTop b off len cap L h hl hx) .nil
  | sliceTopEmpty a a' n => exact .cons _ _ _ _ (.sliceTopEmpty a a' n) .nil
  | mapNil => exact .cons _ _ _ _ .mapNil .nil
  | map r L h => exact .cons _ _ _ _ (.map r L h) .nil
  | chanNil => exact .cons _ _ _ _ .chanNil .nil
  | func fn f f' c c' h1 h2 => exact .cons _ _ _ _ (.func fn f f' c c' h1 h2) .nil
  | nilFunc => exact .cons _ _ _ _ .nilFunc .nil
  | iface t v v' h => exact .cons _ _ _ _ (.iface t v v' h) .nil
  | nilIface => exact .cons _ _ _ _ .nilIface .nil
  | tuple cs cs' h => exact .cons _ _ _ _ (.tuple cs cs' h) .nil

theorem VR.cells_size {ρ : Rho} {v v' : Value} (h : VR ρ v v') : v.cells.size = v'.cells.size := by
  have := h.cells.length
  simpa using this

end Go.Ab

namespace Go.Ab

def MER (ρ : Rho) (e e' : MapEntry) : Prop := VR ρ e.key e'.key ∧ VR ρ e.val e'.val ∧ e.born = e'.born

inductive MERs (ρ : Rho) : List MapEntry → List MapEntry → Prop
  | nil : MERs ρ [] []
  | cons (e e' : MapEntry) (es es' : List MapEntry) : MER ρ e e' → MERs ρ es es' → MERs ρ (e :: es) (e' :: es')

theorem MERs.mono {ρ ρ' : Rho} (hs : Sub ρ ρ') {v v' : List MapEntry} (h : MERs ρ v v') : MERs ρ' v v' := by
  induction h with
  | nil => exact .nil
  | cons e e' es es' h1 _ ih => exact .cons _ _ _ _ ⟨h1.1.mono hs, h1.2.1.mono hs, h1.2.2⟩ ih

/-- What a block that is known holds. -/
def BR (ρ : Rho) (ro : Prop) (L : Loc) (w : World) : Blk → Prop
  | .row cs esz => L.esz = esz ∧ ∃ arr el fz, w.heap[L.blk]? = some (.cells arr el fz) ∧ arr.size = L.tot ∧ (ro ∨ fz = (0, 0)) ∧
      ∀ (i : Nat) (v : Value), cs[i]? = some v → ∃ v', arr[L.off0 + i]? = some v' ∧ VR ρ v v'
  | .map es clock => ∃ es', w.heap[L.blk]? = some (.map es' clock) ∧ MERs ρ es es'.toList

theorem BR.mono {ρ ρ' : Rho} (hs : Sub ρ ρ') {ro ro' : Prop} (hro : ro → ro') {L : Loc} {w w' : World} (hw : w'.heap[L.blk]? = w.heap[L.blk]?) {B : Blk} (h : BR ρ ro L w B) : BR ρ' ro' L w' B := by
  cases B with
  | row cs esz =>
    obtain ⟨h1, arr, el, fz, h2, h3, h4, h5⟩ := h
    refine ⟨h1, arr, el, fz, by rw [hw]; exact h2, h3, h4.imp hro id, fun i v hv => ?_⟩
    obtain ⟨v', h6, h7⟩ := h5 i v hv
    exact ⟨v', h6, h7.mono hs⟩
  | map es clock =>
    obtain ⟨es', h1, h2⟩ := h
    exact ⟨es', by rw [hw]; exact h1, h2.mono hs⟩

structure Rel (P : Program) (ρ : Rho) (A : H) (w : World) : Prop where
  blk : ∀ b B, A.get b = some B → ∃ L, ρ b = some L ∧ BR ρ (b < A.ro) L w B
  inj : ∀ b b' B B' L L', A.ro ≤ b → A.get b = some B → A.get b' = some B' → ρ b = some L → ρ b' = some L' → L.blk = L'.blk → b = b'
  low : ∀ b L, ρ b = some L → L.blk < w.heap.size
  new : ∀ b, A.next ≤ b → ρ b = none
  ro : A.ro ≤ A.next
  glob : ∀ g, g < P.globals.size → ∃ L, ρ g = some L ∧ L.blk = g ∧ L.off0 = 0

theorem Rel.lt {P : Program} {ρ : Rho} {A : H} {w : World} (h : Rel P ρ A w) {b : Nat} {B : Blk} (hb : A.get b = some B) : b < A.next := by
  obtain ⟨L, hL, _⟩ := h.blk b B hb
  rcases Nat.lt_or_ge b A.next with h1 | h1
  · exact h1
  · rw [h.new b h1] at hL; cases hL

/-- From one state to a later one. -/
structure Mv (P : Program) (ρ : Rho) (A : H) (w : World) (ρ' : Rho) (A' : H) (w' : World) : Prop where
  rel : Rel P ρ' A' w'
  ext : ∀ b, b < A.next → ρ' b = ρ b
  next : A.next ≤ A'.next
  ro : A'.ro = A.ro
  rok : ∀ b B, b < A.ro → A'.get b = some B → A.get b = some B
  dead : ∀ b, b < A.next → A.get b = none → A'.get b = none
  own : ∀ b B L, A'.get b = some B → A.ro ≤ b → ρ' b = some L → w.heap.size ≤ L.blk ∨ ∃ b0 B0 L0, A.get b0 = some B0 ∧ A.ro ≤ b0 ∧ ρ b0 = some L0 ∧ L0.blk = L.blk
  size : w.heap.size ≤ w'.heap.size
  block : ∀ c, c < w.heap.size → (∀ b B L, A.get b = some B → A.ro ≤ b → ρ b = some L → L.blk ≠ c) → w'.heap[c]? = w.heap[c]?
  tape : w'.tape = w.tape
  os : w'.os = w.os
  output : w'.output = w.output

theorem Mv.sub {P : Program} {ρ ρ' : Rho} {A A' : H} {w w' : World} (h : Mv P ρ A w ρ' A' w') (h0 : Rel P ρ A w) : Sub ρ ρ' := by
  intro b L hb
  rw [h.ext b ?_]; exact hb
  rcases Nat.lt_or_ge b A.next with h1 | h1
  · exact h1
  · rw [h0.new b h1] at hb; cases hb

theorem Mv.refl {P : Program} {ρ : Rho} {A : H} {w : World} (h : Rel P ρ A w) : Mv P ρ A w ρ A w :=
  ⟨h, fun _ _ => rfl, Nat.le_refl _, rfl, fun _ _ _ h => h, fun _ _ h => h, fun b B L hb hr hL => .inr ⟨b, B, L, hb, hr, hL, rfl⟩, Nat.le_refl _, fun _ _ _ => rfl, rfl, rfl, rfl⟩

theorem Mv.trans {P : Program} {ρ ρ1 ρ2 : Rho} {A A1 A2 : H} {w w1 w2 : World} (h : Mv P ρ A w ρ1 A1 w1) (k : Mv P ρ1 A1 w1 ρ2 A2 w2) : Mv P ρ A w ρ2 A2 w2 where
  rel := k.rel
  ext := fun b hb => (k.ext b (Nat.lt_of_lt_of_le hb h.next)).trans (h.ext b hb)
  next := Nat.le_trans h.next k.next
  ro := k.ro.trans h.ro
  rok := fun b B hb hg => h.rok b B hb (k.rok b B (h.ro ▸ hb) hg)
  dead := fun b hb hd => k.dead b (Nat.lt_of_lt_of_le hb h.next) (h.dead b hb hd)
  own := by
    intro b B L hb hr hL
    rcases k.own b B L hb (h.ro ▸ hr) hL with h1 | ⟨b0, B0, L0, h1, h2, h3, h4⟩
    · exact .inl (Nat.le_trans h.size h1)
    · rcases h.own b0 B0 L0 h1 (h.ro ▸ h2) h3 with h5 | ⟨b1, B1, L1, h5, h6, h7, h8⟩
      · exact .inl (h4 ▸ h5)
      · exact .inr ⟨b1, B1, L1, h5, h6, h7, h8.trans h4⟩
  size := Nat.le_trans h.size k.size
  block := by
    intro c hc hno
    rw [k.block c (Nat.lt_of_lt_of_le hc h.size) ?_, h.block c hc hno]
    intro b B L hb hr hL e
    rcases h.own b B L hb (h.ro ▸ hr) hL with h1 | ⟨b0, B0, L0, h1, h2, h3, h4⟩
    · omega
    · exact hno b0 B0 L0 h1 h2 h3 (h4.trans e)
  tape := k.tape.trans h.tape
  os := k.os.trans h.os
  output := k.output.trans h.output

/-- A draw turns nothing. -/
theorem Rel.draw {P : Program} {ρ : Rho} {A : H} {w : World} (h : Rel P ρ A w) (n : Nat) : Rel P ρ A { w with drawn := n } :=
  ⟨fun b B hb => let ⟨L, h1, h2⟩ := h.blk b B hb; ⟨L, h1, h2.mono (Sub.refl _) id rfl⟩, h.inj, h.low, h.new, h.ro, h.glob⟩

theorem Mv.draw {P : Program} {ρ : Rho} {A : H} {w : World} (h : Rel P ρ A w) (n : Nat) : Mv P ρ A w ρ A { w with drawn := n } :=
  ⟨h.draw n, fun _ _ => rfl, Nat.le_refl _, rfl, fun _ _ _ h => h, fun _ _ h => h, fun b B L hb hr hL => .inr ⟨b, B, L, hb, hr, hL, rfl⟩, Nat.le_refl _, fun _ _ _ => rfl, rfl, rfl, rfl⟩

section heap
variable {P : Program}

theorem addr_add (c x n : Nat) : (⟨c, x, none⟩ : Addr).add n = ⟨c, x + n, none⟩ := by
  unfold Addr.add
  split
  · next h => subst h; rfl
  · rfl

theorem cell_of {w : World} {c x : Nat} {arr : Array Value} {el : TypeId} {fz : Nat × Nat} (h : w.heap[c]? = some (.cells arr el fz)) : w.cell? ⟨c, x, none⟩ = arr[x]? := by
  simp [World.cell?, h]

theorem frozen_of {w : World} {c x : Nat} {arr : Array Value} {el : TypeId} (h : w.heap[c]? = some (.cells arr el (0, 0))) : w.frozen? ⟨c, x, none⟩ = false := by
  simp [World.frozen?, h]

/-- w' is w but for the cells of block c, which are arr. -/
structure RowBut (c : Nat) (arr : Array Value) (el : TypeId) (w w' : World) : Prop where
  row : w'.heap[c]? = some (.cells arr el (0, 0))
  size : w'.heap.size = w.heap.size
  other : ∀ k, k ≠ c → w'.heap[k]? = w.heap[k]?
  tape : w'.tape = w.tape
  os : w'.os = w.os
  output : w'.output = w.output

theorem setCell_but {w : World} {c x : Nat} {arr : Array Value} {el : TypeId} (h : w.heap[c]? = some (.cells arr el (0, 0))) (v : Value) :
    RowBut c (arr.setIfInBounds x v) el w (w.setCell ⟨c, x, none⟩ v) := by
  refine ⟨?_, by simp [World.setCell], fun k hk => ?_, rfl, rfl, rfl⟩
  · simp only [World.setCell, Array.getElem?_modify, h]; simp
  · simp only [World.setCell, Array.getElem?_modify]; rw [if_neg (Ne.symm hk)]

theorem run_store_one {w : World} {c x : Nat} {arr : Array Value} {el : TypeId} (h : w.heap[c]? = some (.cells arr el (0, 0))) (hx : x < arr.size) {v : Value} (hv : Ab.oneCell v = true) :
    (store ⟨c, x, none⟩ v).run P w = .ok () (w.setCell ⟨c, x, none⟩ v) := by
  have hv' : v.oneCell' = true := by cases v <;> first | rfl | cases hv
  rw [run_store P w _ v _ hv', cell_of h, Array.getElem?_eq_getElem hx]
  simp [frozen_of h]

theorem run_storeCells : ∀ (vs : List Value) (i : Nat) {w : World} {c x : Nat} {arr : Array Value} {el : TypeId}, w.heap[c]? = some (.cells arr el (0, 0)) →
    x + i + vs.length ≤ arr.size → vs.all Ab.oneCell = true →
    ∃ w' arr', (storeCells ⟨c, x, none⟩ vs i).run P w = .ok () w' ∧ RowBut c arr' el w w' ∧ arr'.size = arr.size ∧
      ∀ j, arr'[j]? = if x + i ≤ j ∧ j < x + i + vs.length then vs[j - (x + i)]? else arr[j]? := by
  intro vs
  induction vs with
  | nil =>
    intro i w c x arr el h hb ho
    exact ⟨w, arr, rfl, ⟨h, rfl, fun _ _ => rfl, rfl, rfl, rfl⟩, rfl, fun j => by rw [if_neg (by simp)]⟩
  | cons v vs ih =>
    intro i w c x arr el h hb ho
    simp only [List.all_cons, Bool.and_eq_true] at ho
    simp only [List.length_cons] at hb
    have h1 := run_store_one (P := P) (x := x + i) h (by omega) ho.1
    have h2 := setCell_but (x := x + i) h v
    obtain ⟨w', arr', h3, h4, h5, h6⟩ := ih (i + 1) (x := x) h2.row (by simp; omega) ho.2
    refine ⟨w', arr', ?_, ⟨h4.row, h4.size.trans h2.size, fun k hk => (h4.other k hk).trans (h2.other k hk), h4.tape.trans h2.tape, h4.os.trans h2.os, h4.output.trans h2.output⟩, by rw [h5]; simp, fun j => ?_⟩
    · simp only [storeCells, Sem.run_bind, addr_add, h1, Result.andThen_ok]; exact h3
    · rw [h6 j]
      by_cases hj : x + (i + 1) ≤ j ∧ j < x + (i + 1) + vs.length
      · rw [if_pos hj, if_pos (by simp; omega), show j - (x + i) = (j - (x + (i + 1))) + 1 from by omega]; rfl
      · rw [if_neg hj]
        by_cases hj' : j = x + i
        · subst hj'
          rw [if_pos (by simp), Array.getElem?_setIfInBounds_self_of_lt (by omega)]; simp
        · rw [Array.getElem?_setIfInBounds_ne (Ne.symm hj'), if_neg (by simp; omega)]

theorem run_loadFrom : ∀ (n i : Nat) (acc : Array Value) {w : World} {c x : Nat} {arr : Array Value} {el : TypeId} {fz : Nat × Nat}, w.heap[c]? = some (.cells arr el fz) →
    x + i + n ≤ arr.size → ∃ r, (loadCellsFrom ⟨c, x, none⟩ i n acc).run P w = .ok r w ∧ r.toList = acc.toList ++ (arr.toList.drop (x + i)).take n := by
  intro n
  induction n with
  | zero => intro i acc w c x arr el fz h hb; exact ⟨acc, rfl, by simp⟩
  | succ n ih =>
    intro i acc w c x arr el fz h hb
    have hlt : x + i < arr.size := by omega
    obtain ⟨r, h1, h2⟩ := ih (i + 1) (acc.push arr[x + i]) (x := x) h (by omega)
    refine ⟨r, ?_, ?_⟩
    · simp only [loadCellsFrom, Sem.run_bind, addr_add, run_load, cell_of h, Array.getElem?_eq_getElem hlt, Result.andThen_ok]; exact h1
    · rw [h2, Array.toList_push, List.append_assoc]
      congr 1
      have hl : x + i < arr.toList.length := by simpa using hlt
      rw [List.drop_eq_getElem_cons hl, show x + (i + 1) = (x + i) + 1 from rfl]
      simp

theorem run_loadCells {n : Nat} {w : World} {c x : Nat} {arr : Array Value} {el : TypeId} {fz : Nat × Nat} (h : w.heap[c]? = some (.cells arr el fz)) (hb : x + n ≤ arr.size) :
    (loadCells ⟨c, x, none⟩ n).run P w = .ok ((arr.toList.drop x).take n).toArray w := by
  obtain ⟨r, h1, h2⟩ := run_loadFrom (P := P) n 0 #[] (x := x) h (by omega)
  have : r = ((arr.toList.drop x).take n).toArray := by apply Array.toList_inj.1; simpa using h2
  rw [← this]; exact h1

end heap

/-- Cells that are read. -/
theorem Rel.read {P : Program} {ρ : Rho} {A : H} {w : World} (h : Rel P ρ A w) {b off n : Nat} {cs : List Value} (hr : A.read b off n = some cs) {L : Loc} (hL : ρ b = some L) :
    ∃ r, (∀ w' : World, w'.heap = w.heap → (loadCells ⟨L.blk, L.off0 + off, none⟩ n).run P w' = .ok r w') ∧ VRs ρ cs r.toList := by
  unfold H.read at hr
  split at hr
  · next cells esz hb =>
    split at hr
    · next hle =>
      cases hr
      obtain ⟨L', hL', h1, arr, el, fz, h2, h3, h4, h5⟩ := h.blk b _ hb
      rw [hL] at hL'
      cases hL'
      rcases Nat.eq_zero_or_pos n with h0 | h0
      · subst h0
        exact ⟨#[], fun _ _ => rfl, by simp; exact .nil⟩
      have hsz : L.off0 + off + n ≤ arr.size := by
        have hlt : off + n - 1 < cells.length := by omega
        obtain ⟨v', h6, _⟩ := h5 (off + n - 1) _ (List.getElem?_eq_getElem hlt)
        have := (Array.getElem?_eq_some_iff.1 h6).1
        omega
      refine ⟨_, fun w' hw' => run_loadCells (P := P) (n := n) (w := w') (by rw [hw']; exact h2) hsz, ?_⟩
      rw [List.toList_toArray]
      refine VRs.of_get ?_ fun i v hv => ?_
      · simp; omega
      · rw [List.getElem?_take] at hv
        split at hv
        · next hi =>
          rw [List.getElem?_drop] at hv
          obtain ⟨v', h8, h9⟩ := h5 _ _ hv
          refine ⟨v', ?_, h9⟩
          rw [List.getElem?_take, if_pos hi, List.getElem?_drop, ← h8]
          simp [Nat.add_assoc]
        · cases hv
    · cases hr
  · cases hr

theorem setAt_length : ∀ (cs : List Value) (n : Nat) (vs : List Value), (setAt cs n vs).length = cs.length
  | [], 0, [] => rfl
  | [], 0, _ :: _ => rfl
  | [], _ + 1, _ => rfl
  | _ :: _, 0, [] => rfl
  | _ :: cs, 0, _ :: vs => by simp [setAt, setAt_length cs 0 vs]
  | _ :: cs, n + 1, vs => by simp [setAt, setAt_length cs n vs]

theorem setAt_get : ∀ (cs : List Value) (n : Nat) (vs : List Value) (j : Nat), n + vs.length ≤ cs.length →
    (setAt cs n vs)[j]? = if n ≤ j ∧ j < n + vs.length then vs[j - n]? else cs[j]?
  | [], 0, [], j, _ => by simp [setAt]
  | [], 0, _ :: _, j, h => by simp at h
  | [], n + 1, vs, j, h => by simp at h
  | c :: cs, 0, [], j, _ => by simp [setAt]
  | c :: cs, 0, v :: vs, j, h => by
    cases j with
    | zero => simp [setAt]
    | succ j =>
      have := setAt_get cs 0 vs j (by simpa using h)
      simp only [setAt, List.getElem?_cons_succ, this]
      simp
  | c :: cs, n + 1, vs, j, h => by
    cases j with
    | zero => simp [setAt]
    | succ j =>
      have := setAt_get cs n vs j (by simp at h; omega)
      simp only [setAt, List.getElem?_cons_succ, this]
      by_cases hj : n ≤ j ∧ j < n + vs.length
      · rw [if_pos hj, if_pos (by omega), show j + 1 - (n + 1) = j - n from by omega]
      · rw [if_neg hj, if_neg (by omega)]

theorem H.get_put (A : H) (b : Nat) (B : Blk) (b' : Nat) : (A.put b B).get b' = if b' = b then some B else A.get b' := T.get_set _ _ _ _
theorem H.get_kill (A : H) (b b' : Nat) : (A.kill b).get b' = if b' = b then none else A.get b' := T.get_erase _ _ _
theorem H.get_push (A : H) (B : Blk) (b' : Nat) : (A.push B).get b' = if b' = A.next then some B else A.get b' := T.get_set _ _ _ _

/-- A block whose content is turned in place, in both. -/
theorem Rel.turn {P : Program} {ρ : Rho} {A : H} {w w' : World} (h : Rel P ρ A w) {b : Nat} {B B' : Blk} (hb : A.get b = some B) (hr : A.ro ≤ b) {L : Loc} (hL : ρ b = some L)
    (hB : BR ρ (b < A.ro) L w' B') (hsize : w'.heap.size = w.heap.size) (hother : ∀ k, k ≠ L.blk → w'.heap[k]? = w.heap[k]?) (ht : w'.tape = w.tape) (ho : w'.os = w.os) (hu : w'.output = w.output) :
    Mv P ρ A w ρ (A.put b B') w' where
  rel := by
    refine ⟨fun b1 B1 h1 => ?_, fun b1 b2 B1 B2 L1 L2 h0 h1 h2 h3 h4 h5 => ?_, fun b1 L1 h1 => by rw [hsize]; exact h.low b1 L1 h1, h.new, h.ro, h.glob⟩
    · rw [H.get_put] at h1
      split at h1
      · next e => subst e; cases h1; exact ⟨L, hL, hB⟩
      · next e =>
        obtain ⟨L1, h2, h3⟩ := h.blk b1 B1 h1
        refine ⟨L1, h2, h3.mono (Sub.refl _) id (hother _ fun e' => e ?_)⟩
        exact (h.inj b b1 B B1 L L1 hr hb h1 hL h2 e'.symm).symm
    · have g : ∀ x X, (A.put b B').get x = some X → ∃ Y, A.get x = some Y := by
        intro x X hx
        rw [H.get_put] at hx
        split at hx
        · next e => subst e; exact ⟨B, hb⟩
        · exact ⟨X, hx⟩
      obtain ⟨Y1, g1⟩ := g b1 B1 h1
      obtain ⟨Y2, g2⟩ := g b2 B2 h2
      exact h.inj b1 b2 Y1 Y2 L1 L2 h0 g1 g2 h3 h4 h5
  ext := fun _ _ => rfl
  next := Nat.le_refl _
  ro := rfl
  rok := fun x X hx hg => by rw [H.get_put, if_neg (by omega)] at hg; exact hg
  dead := fun x hx hd => by rw [H.get_put, if_neg]; exact hd; intro e; subst e; rw [hb] at hd; cases hd
  own := by
    intro x X LX hx hrx hLX
    rw [H.get_put] at hx
    split at hx
    · next e => subst e; exact .inr ⟨x, B, LX, hb, hr, hLX, rfl⟩
    · exact .inr ⟨x, X, LX, hx, hrx, hLX, rfl⟩
  size := by omega
  block := fun c _ hno => hother c fun e => hno b B L hb hr hL e.symm
  tape := ht
  os := ho
  output := hu

/-- Cells that are written. -/
theorem Rel.write {P : Program} {ρ : Rho} {A A' : H} {w : World} (h : Rel P ρ A w) {b off : Nat} {vs vs' : List Value} (hw : A.write b off vs = some A') (hv : VRs ρ vs vs') {L : Loc} (hL : ρ b = some L) :
    ∃ w', (storeCells ⟨L.blk, L.off0 + off, none⟩ vs').run P w = .ok () w' ∧ Mv P ρ A w ρ A' w' := by
  unfold H.write at hw
  split at hw
  · next cells esz hb =>
    split at hw
    · next hle =>
      obtain ⟨hle, hr, ho⟩ := hle
      cases hw
      obtain ⟨L', hL', h1, arr, el, fz, h2, h3, h4, h5⟩ := h.blk b _ hb
      rw [hL] at hL'
      cases hL'
      have hfz : fz = (0, 0) := h4.resolve_left (by omega)
      subst hfz
      have hlen := hv.length
      rcases Nat.eq_zero_or_pos vs.length with h0 | h0
      · have e1 : vs = [] := List.length_eq_zero_iff.1 h0
        subst e1
        have e2 : vs' = [] := List.length_eq_zero_iff.1 (by omega)
        subst e2
        refine ⟨w, rfl, ?_⟩
        refine h.turn hb hr hL ⟨h1, arr, el, (0, 0), h2, h3, .inr rfl, fun i v hi => h5 i v ?_⟩ rfl (fun _ _ => rfl) rfl rfl rfl
        rw [setAt_get _ _ _ _ (by simpa using hle), if_neg (by simp)] at hi
        exact hi
      · have hsz : L.off0 + off + vs.length ≤ arr.size := by
          have hlt : off + vs.length - 1 < cells.length := by omega
          obtain ⟨v', h6, _⟩ := h5 (off + vs.length - 1) _ (List.getElem?_eq_getElem hlt)
          have := (Array.getElem?_eq_some_iff.1 h6).1
          omega
        obtain ⟨w', arr', h6, h7, h8, h9⟩ := run_storeCells (P := P) vs' 0 (x := L.off0 + off) h2 (by omega) (hv.oneCells ▸ ho)
        refine ⟨w', h6, ?_⟩
        refine h.turn hb hr hL ⟨h1, arr', el, (0, 0), h7.row, h8.trans h3, .inr rfl, fun i v hi => ?_⟩ h7.size h7.other h7.tape h7.os h7.output
        rw [setAt_get _ _ _ _ hle] at hi
        split at hi
        · next hij =>
          obtain ⟨v', h10, h11⟩ := hv.get hi
          refine ⟨v', ?_, h11⟩
          rw [h9, if_pos (by omega), ← h10]
          congr 1
          omega
        · next hij =>
          obtain ⟨v', h10, h11⟩ := h5 i v hi
          exact ⟨v', by rw [h9, if_neg (by omega)]; exact h10, h11⟩
    · cases hw
  · cases hw

def Rho.put (ρ : Rho) (b : Nat) (L : Loc) : Rho := fun x => if x = b then some L else ρ x

/-- A new block, in both. -/
theorem Rel.push {P : Program} {ρ : Rho} {A : H} {w : World} (h : Rel P ρ A w) (B : Blk) (o : Obj) (L : Loc) (hblk : L.blk = w.heap.size)
    (hB : BR ρ False L { w with heap := w.heap.push o } B) :
    Mv P ρ A w (ρ.put A.next L) (A.push B) { w with heap := w.heap.push o } := by
  have hs : Sub ρ (ρ.put A.next L) := by
    intro b L' hb
    unfold Rho.put
    split
    · next e => subst e; rw [h.new _ (Nat.le_refl _)] at hb; cases hb
    · exact hb
  have hheap : ∀ k, k < w.heap.size → (w.heap.push o)[k]? = w.heap[k]? := fun k hk => by rw [Array.getElem?_push, if_neg (by omega)]
  refine ⟨⟨fun b1 B1 h1 => ?_, fun b1 b2 B1 B2 L1 L2 h0 h1 h2 h3 h4 h5 => ?_, fun b1 L1 h1 => ?_, fun b1 h1 => ?_, Nat.le_succ_of_le h.ro, fun g hg => ?_⟩,
    fun b hb => ?_, Nat.le_succ _, rfl, fun b B0 hb hg => ?_, fun b hb hd => by rw [H.get_push, if_neg (by omega)]; exact hd, fun b B1 L1 hb hr hL => ?_, ?_, fun c hc _ => hheap c hc, rfl, rfl, rfl⟩
  · rw [H.get_push] at h1
    split at h1
    · next e => subst e; cases h1; exact ⟨L, by simp [Rho.put], hB.mono hs (fun f => f.elim) rfl⟩
    · obtain ⟨L1, h2, h3⟩ := h.blk b1 B1 h1
      exact ⟨L1, hs _ _ h2, h3.mono hs id (hheap _ (h.low _ _ h2))⟩
  · have g : ∀ x X LX, (A.push B).get x = some X → (ρ.put A.next L) x = some LX → (x = A.next ∧ LX = L) ∨ (x ≠ A.next ∧ A.get x = some X ∧ ρ x = some LX) := by
      intro x X LX hx hLX
      rw [H.get_push] at hx
      unfold Rho.put at hLX
      split at hx
      · next e => rw [if_pos e] at hLX; cases hLX; exact .inl ⟨e, rfl⟩
      · next e => rw [if_neg e] at hLX; exact .inr ⟨e, hx, hLX⟩
    rcases g b1 B1 L1 h1 h3 with ⟨e1, e2⟩ | ⟨e1, e2, e3⟩ <;> rcases g b2 B2 L2 h2 h4 with ⟨f1, f2⟩ | ⟨f1, f2, f3⟩
    · omega
    · subst e2; have := h.low _ _ f3; omega
    · subst f2; have := h.low _ _ e3; omega
    · exact h.inj b1 b2 B1 B2 L1 L2 h0 e2 f2 e3 f3 h5
  · unfold Rho.put at h1
    simp only [Array.size_push]
    split at h1
    · cases h1; omega
    · have := h.low _ _ h1; omega
  · unfold Rho.put
    have : A.next + 1 ≤ b1 := h1
    rw [if_neg (by omega)]
    exact h.new _ (by omega)
  · obtain ⟨L1, h1, h2⟩ := h.glob g hg
    exact ⟨L1, hs _ _ h1, h2⟩
  · unfold Rho.put; rw [if_neg (by omega)]
  · have := h.ro
    rw [H.get_push, if_neg (by omega)] at hg
    exact hg
  · rw [H.get_push] at hb
    unfold Rho.put at hL
    split at hb
    · next e => rw [if_pos e] at hL; cases hL; exact .inl (by omega)
    · next e => rw [if_neg e] at hL; exact .inr ⟨b, B1, L1, hb, hr, hL, rfl⟩
  · simp

/-- A known thing less. -/
theorem Rel.kill {P : Program} {ρ : Rho} {A : H} {w : World} (h : Rel P ρ A w) {b : Nat} (hr : A.ro ≤ b) : Mv P ρ A w ρ (A.kill b) w := by
  have g : ∀ x X, (A.kill b).get x = some X → A.get x = some X := by
    intro x X hx
    rw [H.get_kill] at hx
    split at hx
    · cases hx
    · exact hx
  refine ⟨⟨fun b1 B1 h1 => h.blk b1 B1 (g _ _ h1), fun b1 b2 B1 B2 L1 L2 h0 h1 h2 => h.inj b1 b2 B1 B2 L1 L2 h0 (g _ _ h1) (g _ _ h2), h.low, h.new, h.ro, h.glob⟩,
    fun _ _ => rfl, Nat.le_refl _, rfl, fun x X hx hg => g _ _ hg, fun x hx hd => by rw [H.get_kill]; (split; (rfl); (exact hd)), fun x X L hx hrx hL => .inr ⟨x, X, L, g _ _ hx, hrx, hL, rfl⟩, Nat.le_refl _, fun _ _ _ => rfl, rfl, rfl, rfl⟩

end Go.Ab
