/-
  THE ABSTRACT EVALUATOR: statements, calls; a region whose order is open is run in the text's order and looked at: no two effects that aren't ordered, and what is read is the same before and behind each effect that isn't ordered with the read.
-/
import Derived.Test.YtolkoacllaaceaaAbs1
namespace Go.Abs
open Go

noncomputable section

/-- Does an operation write, call, or make a slice longer? -/
def isEff (P : Program) (o : Oper) : Bool := match kindOf P o.op with | .E | .C | .bad => true | _ => false
def isRead (P : Program) (o : Oper) : Bool := match kindOf P o.op with | .R => true | _ => false

def effs (P : Program) (ops : Array Oper) : List Nat := (List.range ops.size).filter fun i => (ops[i]?).any (isEff P)
def reads (P : Program) (ops : Array Oper) : List Nat := (List.range ops.size).filter fun i => (ops[i]?).any (isRead P)

/-- i comes before j in every order. -/
def ordered (b : Array Nat) (i j : Nat) : Bool := (b.getD j 0).testBit i
def unordered (b : Array Nat) (i j : Nat) : Bool := !ordered b i j && !ordered b j i

def chained (b : Array Nat) : List Nat → Bool
  | [] => true
  | i :: r => r.all (ordered b i) && chained b r

/-- A guard's slot is written by its operation alone. -/
def guardsOk (ops : Array Oper) : Bool := ops.toList.all fun o =>
  match o.guard with
  | none => true
  | some (j, _) => (List.range ops.size).all fun k => k == j || ((ops[k]?).bind (·.dst)) != ((ops[j]?).bind (·.dst))

def staticOk (P : Program) (ops : Array Oper) : Bool :=
  guardsOk ops && chained (Region.before ops) (effs P ops)

/-- The pairs of a read and an effect that aren't ordered. -/
def drawPairs (P : Program) (ops : Array Oper) : List (Nat × Nat) :=
  (reads P ops).flatMap fun i => ((effs P ops).filter fun j => unordered (Region.before ops) i j).map fun j => (i, j)

/-- Operations in their order, with the states ahead of each, and behind the last. -/
def runOpsT (P : Program) (call : Caller) (ops : Array Oper) : List Oper → St → Option (List St)
  | [], s => some [s]
  | o :: rest, s =>
    if liveG ops o s.tmps then
    if wantedA ops o s.tmps then
      match stepO P call o s with
      | some (v, h) => match runOpsT P call ops rest ⟨s.put o.dst v, h⟩ with
        | some l => some (s :: l)
        | none => none
      | none => none
    else match runOpsT P call ops rest ⟨s.put o.dst undef, s.h⟩ with
      | some l => some (s :: l)
      | none => none
    else none

abbrev Chk := Value → Value → Bool

def sameRead (chk : Chk) (P : Program) (o : Oper) (si sj : St) : Bool :=
  match stepR P (evA si.tmps) o si.h, stepR P (evA si.tmps) o sj.h with
  | some u, some v => chk u v
  | _, _ => false

/-- What the read at i gives ahead of and behind the effect at j is what it gave. -/
def pairOk (chk : Chk) (P : Program) (ops : Array Oper) (tr : List St) (p : Nat × Nat) : Bool :=
  match ops[p.1]?, tr[p.1]?, tr[p.2]?, tr[p.2 + 1]? with
  | some o, some si, some sj, some sk => !wantedA ops o si.tmps || (sameRead chk P o si sj && sameRead chk P o si sk)
  | _, _, _, _ => false

def runDraw (chk : Chk) (P : Program) (call : Caller) (ops : Array Oper) (s : St) : Option St :=
  if staticOk P ops then
    match runOpsT P call ops ops.toList s with
    | some tr => if (drawPairs P ops).all (pairOk chk P ops tr) then tr[ops.size]? else none
    | none => none
  else none

def condA (v : Value) : Option Bool := match v with | .bool b => some b | _ => none

/-- Functions that are taken by what is known of them, not by their text. -/
abbrev Known := FuncId → Option (List Value → Hp → Option (Value × Hp))

def callWith (P : Program) (X : Known) (rc : Code → St → Option (Ex × St)) : Caller := fun f args h =>
  match X f with
  | some g => g args h
  | none =>
  match P.funcs[f]? with
  | none => none
  | some fn =>
    match fn.body with
    | none => externA fn.name fn.origin args h
    | some c => match rc c ⟨args ++ List.replicate (fn.ntmps - args.length) undef, h⟩ with
      | some (.normal, s) | some (.ret, s) => match resultsA P fn s with
        | some v => some (v, s.h)
        | none => none
      | _ => none

/-- Code, with so much fuel. -/
def run (chk : Chk) (P : Program) (X : Known) : Nat → Code → St → Option (Ex × St)
  | 0, _, _ => none
  | n + 1, c, s =>
    match c with
    | .skip => some (.normal, s)
    | .label _ => some (.normal, s)
    | .ret => some (.ret, s)
    | .exit id => some (.exit id, s)
    | .goto l => some (.goto l, s)
    | .region _ ops draw =>
      if draw then match runDraw chk P (callWith P X (run chk P X n)) ops s with
        | some s' => some (.normal, s')
        | none => none
      else match runOps P (callWith P X (run chk P X n)) ops ops.toList s with
        | some s' => some (.normal, s')
        | none => none
    | .seq a b => match run chk P X n a s with
      | some (.normal, s1) => run chk P X n b s1
      | r => r
    | .cond c a b => if okOperand c then match condA (evA s.tmps c) with
        | some t => run chk P X n (if t then a else b) s
        | none => none
      else none
    | .block id b => match run chk P X n b s with
      | some (.exit id', s1) => if id' = id then some (.normal, s1) else some (.exit id', s1)
      | r => r
    | .loop b => match run chk P X n b s with
      | some (.normal, s1) => run chk P X n (.loop b) s1
      | r => r
    | .scope b => match run chk P X n b s with
      | some (.goto l, s1) => match findLabel b l with
        | some rest => match run chk P X n rest s1 with
          | some (.goto _, _) => none
          | r => r
        | none => none
      | r => r
    | .rangeFunc .. => none
    | .refuse _ => none

def callN (chk : Chk) (P : Program) (X : Known) (n : Nat) : Caller := callWith P X (run chk P X n)

/-- Two values that are the same, looked at to some depth. -/
def vbeq1 : Value → Value → Bool
  | .bool a, .bool b => a == b
  | .int j a, .int k b => j == k && a == b
  | .float j a, .float k b => j == k && a == b
  | .complex j a c, .complex k b d => j == k && a == b && c == d
  | .string a, .string b => a.data.toList == b.data.toList
  | .pointer a, .pointer b => a == b
  | .slice a n k, .slice b m l => a == b && n == m && k == l
  | .map a, .map b => a == b
  | .nilFunc, .nilFunc => true
  | .nilIface, .nilIface => true
  | .func (.func f) a b, .func (.func g) c d => f == g && a.toList.isEmpty && b.toList.isEmpty && c.toList.isEmpty && d.toList.isEmpty
  | _, _ => false
def vbeqL : List Value → List Value → Bool
  | [], [] => true
  | a :: r, b :: q => vbeq1 a b && vbeqL r q
  | _, _ => false
def vbeq (a b : Value) : Bool :=
  match a, b with
  | .agg xs, .agg ys => vbeqL xs.toList ys.toList
  | .tuple xs, .tuple ys => vbeqL xs.toList ys.toList
  | a, b => vbeq1 a b

def H0 : Hp := ⟨0, .leaf⟩
def X0 : Known := fun _ => none
end
end Go.Abs
