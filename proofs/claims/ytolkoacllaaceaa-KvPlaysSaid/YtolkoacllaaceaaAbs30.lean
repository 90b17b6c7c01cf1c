/-
  UNKNOWN VALUES, operations that look at no memory. A marked value is carried on, and not looked into; what an operation comes to is told by the words of a table.
-/
import Derived.Test.YtolkoacllaaceaaAbs18
namespace Go.Abs
open Go

noncomputable section

/-- The words for what is not worked out. -/
structure Sy where
  add : Int → Int → Int
  sub : Int → Int → Int
  mul : Int → Int → Int
  quo : Int → Int → Int
  rem : Int → Int → Int
  emod : Int → Int → Int
  neg : Int → Int
  wrap : IntKind → Int → Int
  band : IntKind → Int → Int → Int
  bor : IntKind → Int → Int → Int
  bxor : IntKind → Int → Int → Int
  shl : IntKind → Int → Int → Int
  shr : IntKind → Int → Int → Int
  lt : Int → Int → Bool
  le : Int → Int → Bool
  eq : Int → Int → Bool
  imin : Int → Int → Int
  imax : Int → Int → Int
  nat : Int → Nat
  int : Nat → Int
  nadd : Nat → Nat → Nat
  nsub : Nat → Nat → Nat
  nmul : Nat → Nat → Nat
  ndiv : Nat → Nat → Nat
  nmod : Nat → Nat → Nat
  nbeq : Nat → Nat → Bool
  nmin : Nat → Nat → Nat
  get : {α : Type} → α → List α → Nat → α
  set : {α : Type} → List α → Nat → α → List α
  app : {α : Type} → List α → List α → List α
  drop : {α : Type} → Nat → List α → List α
  take : {α : Type} → Nat → List α → List α
  len : {α : Type} → List α → Nat
  rep : {α : Type} → Nat → α → List α
  slen : ByteArray → Nat
  sapp : ByteArray → ByteArray → ByteArray
  ssub : ByteArray → Nat → Nat → ByteArray
  sget : ByteArray → Nat → Int
  seq : ByteArray → ByteArray → Bool
  slt : ByteArray → ByteArray → Bool
  sbytes : ByteArray → List Int
  sof : List Int → ByteArray
  fst : ByteArray × ByteArray → ByteArray
  snd : ByteArray × ByteArray → ByteArray
  half : List (ByteArray × ByteArray) → Nat → ByteArray
  fof : Int → Nat
  feq : Nat → Nat → Bool
  fge : Nat → Nat → Bool
  fadd : Nat → Nat → Nat
  faddOk : Nat → Nat → Prop
  fint : Nat → Int
  fintOk : Nat → Prop
  ile : Int → Int → Prop
  ilt : Int → Int → Prop
  nle : Nat → Nat → Prop
  nlt : Nat → Nat → Prop
  ieq : Int → Int → Prop
  neq : Nat → Nat → Prop
  no : Oper → List Value → Prop
  leq : List Int → List Int → Bool
  dint : Value → Int
  dstr : Value → ByteArray
  dbool : Value → Bool
  dels : Value → List Value
  fld : Value → Nat → Value
  ints : List Value → List Int
  svals : ByteArray → List Value

def bitsOf (f : {n : Nat} → BitVec n → BitVec n → BitVec n) (k : IntKind) (x y : Int) : Int := k.wrap (f (BitVec.ofInt k.bits x) (BitVec.ofInt k.bits y)).toNat

def noPair : ByteArray × ByteArray := (⟨#[]⟩, ⟨#[]⟩)

/-- What the words mean. -/
def std : Sy where
  add := fun x y => x + y
  sub := fun x y => x - y
  mul := fun x y => x * y
  quo := Int.tdiv
  rem := Int.tmod
  emod := fun x y => x % y
  neg := fun x => -x
  wrap := IntKind.wrap
  band := bitsOf (fun a b => a &&& b)
  bor := bitsOf (fun a b => a ||| b)
  bxor := bitsOf (fun a b => a ^^^ b)
  shl := fun k x y => k.wrap (x * 2 ^ (min y.toNat k.bits))
  shr := fun k x y => x.fdiv (2 ^ (min y.toNat k.bits))
  lt := fun x y => decide (x < y)
  le := fun x y => decide (x ≤ y)
  eq := fun x y => x == y
  imin := fun x y => if y < x then y else x
  imax := fun x y => if y > x then y else x
  nat := Int.toNat
  int := fun n => (n : Int)
  nadd := fun x y => x + y
  nsub := fun x y => x - y
  nmul := fun x y => x * y
  ndiv := fun x y => x / y
  nmod := fun x y => x % y
  nbeq := fun x y => x == y
  nmin := min
  get := fun d l i => l.getD i d
  set := fun l i x => l.set i x
  app := fun l m => l ++ m
  drop := List.drop
  take := List.take
  len := List.length
  rep := List.replicate
  slen := fun s => s.data.toList.length
  sapp := fun s t => s ++ t
  ssub := fun s l h => ⟨((s.data.toList.drop l).take (h - l)).toArray⟩
  sget := fun s i => ((s.data.toList.getD i 0).toNat : Int)
  seq := fun s t => s.data.toList == t.data.toList
  slt := fun s t => Op.bytesLess s.data.toList t.data.toList
  sbytes := fun s => s.data.toList.map fun b => (b.toNat : Int)
  sof := fun l => ⟨(l.map fun n => UInt8.ofNat n.toNat).toArray⟩
  fst := fun p => p.1
  snd := fun p => p.2
  half := fun l i => if i % 2 = 0 then (l.getD (i / 2) noPair).1 else (l.getD (i / 2) noPair).2
  fof := FloatKind.f64.nearest
  feq := fun x y => Ieee.double.order x y == some .eq
  fge := fun x y => Ieee.double.order x y == some .gt || Ieee.double.order x y == some .eq
  fadd := fun x y => (Ieee.double.add x y).getD 0
  faddOk := fun x y => ((Ieee.double.add x y).isSome : Bool) = true
  fint := fun x => ((Ieee.double.read x).toInt .zero).getD 0
  fintOk := fun x => (Ieee.double.read x).toInt .zero = some (((Ieee.double.read x).toInt .zero).getD 0) ∧ -9223372036854775808 ≤ ((Ieee.double.read x).toInt .zero).getD 0 ∧ ((Ieee.double.read x).toInt .zero).getD 0 ≤ 9223372036854775807
  ile := fun x y => x ≤ y
  ilt := fun x y => x < y
  nle := fun x y => x ≤ y
  nlt := fun x y => x < y
  ieq := fun x y => x = y
  neq := fun x y => x = y
  no := fun _ _ => False
  leq := fun l m => l == m
  dint := dint
  dstr := dstr
  dbool := dbool
  dels := dels
  fld := fld
  ints := fun l => l.map dint
  svals := fun s => s.data.toList.map fun b => .int .u8 b.toNat

/-- The value under a mark. -/
def den (v : Value) : Value :=
  match v with
  | .func (.yield 0) first cap => match first.toList, cap.toList with
    | [w], [] => if markable w then w else v
    | _, _ => v
  | v => v
def isMark (v : Value) : Bool :=
  match v with
  | .func (.yield 0) _ _ => true
  | _ => false

/-- One way an operation may come to its end: where it holds, what it asks, what it gives. -/
structure Alt where
  cond : Option Prop
  ob : Option Prop
  v : Value
  h : Hp

def holds : Option Prop → Prop
  | none => True
  | some p => p
def one (h : Hp) (ob : Prop) (v : Value) : Option (List Alt) := some [⟨none, some ob, v, h⟩]
def pure1 (h : Hp) (v : Value) : Option (List Alt) := some [⟨none, none, v, h⟩]
/-- A bool that is not worked out. -/
def two (h : Hp) (b : Bool) : Option (List Alt) := some [⟨some (b = true), none, .bool true, h⟩, ⟨some (b = false), none, .bool false, h⟩]

variable (S : Sy)

/-- In the bounds of an int. -/
def inI (n : Int) : Prop := S.ile (-9223372036854775808) n ∧ S.ile n 9223372036854775807

def symInt (h : Hp) (op : BinOp) (k : IntKind) (x y : Int) : Option (List Alt) :=
  match op, k with
  | .add, .i64 => one h (inI S (S.add x y)) (mk (.int .i64 (S.add x y)))
  | .sub, .i64 => one h (inI S (S.sub x y)) (mk (.int .i64 (S.sub x y)))
  | .mul, .i64 => one h (inI S (S.mul x y)) (mk (.int .i64 (S.mul x y)))
  | .quo, .i64 => one h (S.ilt 0 y ∧ inI S x) (mk (.int .i64 (S.quo x y)))
  | .add, k => pure1 h (mk (.int k (S.wrap k (S.add x y))))
  | .sub, k => pure1 h (mk (.int k (S.wrap k (S.sub x y))))
  | .mul, k => pure1 h (mk (.int k (S.wrap k (S.mul x y))))
  | .quo, k => one h (S.ilt 0 y) (mk (.int k (S.wrap k (S.quo x y))))
  | .rem, k => one h (S.ilt 0 y) (mk (.int k (S.rem x y)))
  | .and, k => pure1 h (mk (.int k (S.band k x y)))
  | .or, k => pure1 h (mk (.int k (S.bor k x y)))
  | .xor, k => pure1 h (mk (.int k (S.bxor k x y)))
  | .eql, _ => two h (S.eq x y)
  | .neq, _ => two h (!(S.eq x y))
  | .lss, _ => two h (S.lt x y)
  | .leq, _ => two h (S.le x y)
  | .gtr, _ => two h (S.lt y x)
  | .geq, _ => two h (S.le y x)
  | _, _ => none

def symStr (h : Hp) (op : BinOp) (x y : ByteArray) : Option (List Alt) :=
  match op with
  | .add => one h (S.nle (S.nadd (S.slen x) (S.slen y)) 9223372036854775807) (mk (.string (S.sapp x y)))
  | .eql => two h (S.seq x y)
  | .neq => two h (!(S.seq x y))
  | .lss => two h (S.slt x y)
  | .gtr => two h (!(S.slt x y || S.seq x y))
  | .leq => two h (S.slt x y || S.seq x y)
  | .geq => two h (!(S.slt x y))
  | _ => none

def symFlo (h : Hp) (op : BinOp) (x y : Nat) : Option (List Alt) :=
  match op with
  | .eql => two h (S.feq x y)
  | .neq => two h (!(S.feq x y))
  | .geq => two h (S.fge x y)
  | _ => none
def symCom (h : Hp) (op : BinOp) (a b c d : Nat) : Option (List Alt) :=
  match op with
  | .eql => two h (S.feq a c && S.feq b d)
  | .neq => two h (!(S.feq a c && S.feq b d))
  | .add => one h (S.faddOk a c ∧ S.faddOk b d) (mk (.complex .f64 (S.fadd a c) (S.fadd b d)))
  | _ => none

def symBin (h : Hp) (op : BinOp) (a b : Value) : Option (List Alt) :=
  match a, b with
  | .int k x, .int k' y =>
    match op with
    | .shl => one h (S.ile 0 y) (mk (.int k (S.shl k x y)))
    | .shr => one h (S.ile 0 y) (mk (.int k (S.shr k x y)))
    | _ => if k = k' then symInt S h op k x y else none
  | .string x, .string y => symStr S h op x y
  | .float .f64 x, .float .f64 y => symFlo S h op x y
  | .complex .f64 a b, .complex .f64 c d => symCom S h op a b c d
  | _, _ => none

/-- A bound of a slice expression: what it asks, what it is. -/
def symBound (x : Option Value) (dflt most : Nat) : Option (Prop × Nat) :=
  match x with
  | none => some (True, dflt)
  | some v => match den v with
    | .int _ n => some (S.ile 0 n ∧ S.ile n (S.int most), S.nat n)
    | _ => none

def symSlice (P : Program) (h : Hp) (t : TypeId) (v : Value) (lo hi : Option Value) : Option (List Alt) :=
  match P.underlying t, den v with
  | some .string, .string s => match symBound S hi (S.slen s) (S.slen s) with
    | some (o1, b) => match symBound S lo 0 b with
      | some (o2, a) => one h (o1 ∧ o2) (mk (.string (S.ssub s a b)))
      | none => none
    | none => none
  | some (.slice elem), .slice (some ⟨b, o, none⟩) len cap => match szA P elem with
    | some sz => if cap = unk sz then match symBound S hi len len with
      | some (o1, y) => match symBound S lo 0 y with
        | some (o2, x) => one h (o1 ∧ o2) (mk (.slice (some ⟨b, S.nadd o (S.nmul x sz), none⟩) (S.nsub y x) cap))
        | none => none
      | none => none
      else match lo with
        | some _ => none
        | none => if isUnk cap then none else match symBound S hi len cap with
          | some (o1, y) => one h o1 (mk (.slice (some ⟨b, o, none⟩) y cap))
          | none => none
    | none => none
  | _, _ => none

def symIdx (P : Program) (h : Hp) (t : TypeId) (v i : Value) : Option (List Alt) :=
  match den i with
  | .int _ n => match P.underlying t, den v with
    | some (.array len elem), .pointer (some ⟨b, o, none⟩) => match szA P elem with
      | some sz => one h (S.ile 0 n ∧ S.ilt n (S.int len)) (mk (.pointer (some ⟨b, S.nadd o (S.nmul (S.nat n) sz), none⟩)))
      | none => none
    | some (.slice elem), .slice (some ⟨b, o, none⟩) len _ => match szA P elem with
      | some sz => one h (S.ile 0 n ∧ S.ilt n (S.int len)) (mk (.pointer (some ⟨b, S.nadd o (S.nmul (S.nat n) sz), none⟩)))
      | none => none
    | _, _ => none
  | _ => none

/-- A struct of two texts. -/
def isStrT (P : Program) (t : TypeId) : Bool := match P.underlying t with
  | some .string => true
  | _ => false
def pairTy (P : Program) (t : TypeId) : Bool := match P.underlying t with
  | some (.struct fs) => match fs.toList with
    | [f, g] => f.name != "_" && g.name != "_" && f.offset == 0 && g.offset == 1 && isStrT P f.type && isStrT P g.type && !P.stoodInHeld t && !P.eqGuardType P.depth t
    | _ => false
  | _ => false
def symAgg (P : Program) (h : Hp) (op : BinOp) (t : TypeId) (a b : Value) : Option (List Alt) :=
  match a, b with
  | .agg xs, .agg ys => match xs.toList, ys.toList with
    | [u1, u2], [w1, w2] => match den u1, den u2, den w1, den w2 with
      | .string p, .string q, .string r, .string s => if pairTy P t then match op with
          | .eql => two h (S.seq p r && S.seq q s)
          | .neq => two h (!(S.seq p r && S.seq q s))
          | _ => none
        else none
      | _, _, _, _ => none
    | _, _ => none
  | _, _ => none

/-- Cells that are numbers. -/
def numsOf (k : IntKind) : List Value → Option (List Int)
  | [] => some []
  | v :: l => match den v with
    | .int k' n => if k = k' then match numsOf k l with
      | some m => some (n :: m)
      | none => none
      else none
    | _ => none
/-- Arrays of numbers. -/
def symArr (P : Program) (h : Hp) (op : BinOp) (t : TypeId) (a b : Value) : Option (List Alt) :=
  match P.underlying t with
  | some (.array n e) => match P.underlying e, szA P e, a, b with
    | some (.int k), some 1, .agg xs, .agg ys => match numsOf k xs.toList, numsOf k ys.toList with
      | some l, some m => if l.length = n ∧ m.length = n ∧ P.eqGuardType P.depth t = false then match op with
        | .eql => two h (S.leq l m)
        | .neq => two h (!(S.leq l m))
        | _ => none
        else none
      | _, _ => none
    | _, _, _, _ => none
  | _ => none

def anyMark (ρ : Operand → Value) (xs : List Operand) : Bool := xs.any fun x => isMark (ρ x)

/-- An operation that looks at no memory, of which a value is not known. -/
def symT (P : Program) (ρ : Operand → Value) (o : Oper) (h : Hp) : Option (List Alt) :=
  match o.op with
  | .binOp op t x y _ => match symBin S h op (den (ρ x)) (den (ρ y)) with
    | some a => some a
    | none => match symAgg S P h op t (ρ x) (ρ y) with
      | some a => some a
      | none => match symArr S P h op t (ρ x) (ρ y) with
      | some a => some a
      | none => match op with
      | .eql | .neq => match binA P op t x y (den (ρ x)) (den (ρ y)) with
        | some v => pure1 h v
        | none => none
      | _ => none
  | .unOp op _ x => match op, den (ρ x) with
    | .neg, .int .i64 n => one h (inI S (S.neg n)) (mk (.int .i64 (S.neg n)))
    | .xor, .int k n => pure1 h (mk (.int k (S.bxor k (if k.signed then -1 else k.max) n)))
    | _, _ => none
  | .convert src dst x => match P.underlying src, P.underlying dst, den (ρ x) with
    | some (.int _), some (.int k), .int _ n => pure1 h (mk (.int k (S.wrap k n)))
    | some .string, some .string, .string s => pure1 h (mk (.string s))
    | some (.int _), some (.float .f64), .int _ n => pure1 h (mk (.float .f64 (S.fof n)))
    | some (.float _), some (.int .i64), .float .f64 b => one h (S.fintOk b) (mk (.int .i64 (S.fint b)))
    | _, _, _ => none
  | .slice t x lo hi none => symSlice S P h t (ρ x) (lo.map ρ) (hi.map ρ)
  | .indexAddr t x i => symIdx S P h t (ρ x) (ρ i)
  | .index t x i => match P.underlying t, den (ρ x), den (ρ i) with
    | some .string, .string s, .int _ n => one h (S.ile 0 n ∧ S.ilt n (S.int (S.slen s))) (mk (.int .u8 (S.sget s (S.nat n))))
    | _, _, _ => none
  | .fieldAddr s x f => match den (ρ x), P.underlying s with
    | .pointer (some ⟨b, o, none⟩), some (.struct fs) => match fs[f]? with
      | some fd => match szA P fd.type with
        | some (_ + 1) => pure1 h (mk (.pointer (some ⟨b, S.nadd o fd.offset, none⟩)))
        | _ => none
      | none => none
    | _, _ => none
  | .nilCheck x => match den (ρ x) with
    | .pointer (some a) => pure1 h (mk (.pointer (some a)))
    | _ => none
  | .call { callee := .builtin .len, args, argTypes } => match argTypes[0]? with
    | some t => match P.underlying t, args.toList.map fun x => den (ρ x) with
      | some .string, [.string s] => pure1 h (mk (goInt (S.slen s)))
      | some (.slice _), [.slice _ n _] => pure1 h (mk (.int .i64 (S.int n)))
      | _, _ => none
    | none => none
  | .call { callee := .builtin .min, args, .. } => match args.toList.map fun x => den (ρ x) with
    | [.int k x, .int k' y] => if k = k' then pure1 h (mk (.int k (S.imin x y))) else none
    | _ => none
  | .call { callee := .builtin .max, args, .. } => match args.toList.map fun x => den (ρ x) with
    | [.int k x, .int k' y] => if k = k' then pure1 h (mk (.int k (S.imax x y))) else none
    | _ => none
  | .call { callee := .builtin .complex, args, .. } => match args.toList.map fun x => den (ρ x) with
    | [.float .f64 x, .float .f64 y] => pure1 h (mk (.complex .f64 x y))
    | _ => none
  | .call { callee := .builtin .real, args, .. } => match args.toList.map fun x => den (ρ x) with
    | [.complex .f64 x _] => pure1 h (mk (.float .f64 x))
    | _ => none
  | .call { callee := .builtin .imag, args, .. } => match args.toList.map fun x => den (ρ x) with
    | [.complex .f64 _ y] => pure1 h (mk (.float .f64 y))
    | _ => none
  | _ => none
end
end Go.Abs
