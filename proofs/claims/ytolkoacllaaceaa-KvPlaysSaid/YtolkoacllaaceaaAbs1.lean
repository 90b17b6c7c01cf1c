/-
  THE ABSTRACT EVALUATOR, ITS WORDS: a deterministic evaluator of the model's own Code over a heap of blocks with no draws and no capacities.
  Generic over the program. Nothing here is about one program.
-/
import Derived.WalkKit
import Derived.WalkSpells
import Derived.Orders
import Derived.Lib.ConvBytes
import Derived.Lib.Bytealg
namespace Go.Abs
open Go

noncomputable section

/-- From here on a number says: the capacity is not known; what it is more: the cells of an element. -/
def UNK0 : Nat := 9223372036854775808
def unk (e : Nat) : Nat := 9223372036854775808 + e
def isUnk (k : Nat) : Bool := decide (9223372036854775808 ≤ k)

/-- A row whose length the evaluator does not know: numbers, texts, pairs of texts. -/
inductive Row where
  | ints (k : IntKind) (xs : List Int)
  | bools (xs : List Bool)
  | strs (xs : List ByteArray)
  | pairs (xs : List (ByteArray × ByteArray))
  | vals (z : Value) (xs : List Value)

/-- A value of one cell without an address. -/
def plain1 : Value → Bool
  | .bool _ | .int .. | .float .. | .complex .. | .string _ | .nilFunc | .nilIface => true
  | .pointer none | .map none => true
  | .slice none 0 0 => true
  | .func _ a b => a.isEmpty && b.isEmpty
  | _ => false
def dint (v : Value) : Int := match v with | .int _ n => n | _ => 0
def dstr (v : Value) : ByteArray := match v with | .string s => s | _ => ⟨#[]⟩
def dbool (v : Value) : Bool := match v with | .bool b => b | _ => false
def dels (v : Value) : List Value := match v with | .func (.yield 1) _ xs => xs.toList | _ => []
/-- A cell of an element. -/
def fld (x : Value) (i : Nat) : Value := x.cells.getD i (.bool false)
/-- A cell, of a zero's kind. -/
def norm1 (z x : Value) : Value :=
  match z with
  | .int k _ => .int k (dint x)
  | .string _ => .string (dstr x)
  | .bool _ => .bool (dbool x)
  | .func (.yield 1) f _ => .func (.yield 1) f (dels x).toArray
  | z => if plain1 z then z else .bool false
def cellsN (z x : Value) : List Value :=
  match z with
  | .agg zs => zs.toList.zipIdx.map fun p => norm1 p.1 (fld x p.2)
  | z => [norm1 z x]
/-- All cells of a list of elements. -/
def flatN (z : Value) (xs : List Value) : List Value := xs.flatMap (cellsN z)
def Row.cells : Row → List Value
  | .ints k xs => xs.map (.int k)
  | .bools xs => xs.map .bool
  | .strs xs => xs.map .string
  | .pairs xs => xs.flatMap fun p => [.string p.1, .string p.2]
  | .vals z xs => flatN z xs

/-- A block: a row of cells (ro: it came in and is only read), a map, or a row of unknown length. -/
inductive Blk where
  | cells (cs : List Value) (ro : Bool)
  | map (es : List MapEntry) (clock : Nat)
  | row (r : Row) (ro : Bool)

/-- A value of one cell that the evaluator does not look into. -/
def mk (v : Value) : Value := .func (.yield 0) #[v] #[]
/-- A slice that nobody writes to any more: an element's zero, the elements (each as it is loaded). -/
def dsl (z : Value) (xs : List Value) : Value := .func (.yield 1) #[z] xs.toArray
/-- A slice that nobody writes to any more, which may be appended to: in place, if the block of that number says so. -/
def osq (z : Value) (xs : List Value) (b q : Nat) : Value := .func (.yield 5) #[z, .slice none b q] xs.toArray
def osl (z : Value) (xs : List Value) (b : Nat) : Value := osq z xs b 0
/-- At its full capacity. -/
def olit (z : Value) (xs : List Value) : Value := osq z xs 0 1
/-- A place in such a slice: the cells from an element's begin on, how many cells from there. -/
def fptr (cs : List Value) (j : Nat) : Value := .func (.yield 2) cs.toArray #[.slice none j 0]
/-- A bool that is not worked out. -/
def mkb (b : Bool) : Value := .func (.yield 3) #[.bool b] #[]
/-- A place in a row of a block: an element's cells, the element, the cell. -/
def rptr (b e i j : Nat) : Value := .func (.yield 4) #[.pointer (some ⟨b, 0, none⟩)] #[.slice none e 0, .slice none i j]
/-- What stands for whatever there is in a slot. -/
def dead : Value := .tuple #[.tuple #[]]
def isYield : Fn → Bool
  | .yield _ => true
  | _ => false
/-- A marked value is no bool, and marked once. -/
def markable : Value → Bool
  | .int .. | .float .. | .complex .. | .string _ | .pointer _ | .slice .. => true
  | _ => false

/-- A tree of blocks by number. -/
inductive Tr where
  | leaf
  | node (l : Tr) (v : Option Blk) (r : Tr)

def Tr.get (t : Tr) : Nat → Option Blk :=
  @Tr.rec (fun _ => Nat → Option Blk) (fun _ => none) (fun _ v _ gl gr i => @Nat.rec (fun _ => Option Blk) v (fun j _ => @Bool.rec (fun _ => Option Blk) (gr (j / 2)) (gl (j / 2)) (Nat.beq (j % 2) 0)) i) t

def Tr.left (t : Tr) : Tr := @Tr.rec (fun _ => Tr) .leaf (fun l _ _ _ _ => l) t
def Tr.right (t : Tr) : Tr := @Tr.rec (fun _ => Tr) .leaf (fun _ _ r _ _ => r) t
def Tr.top (t : Tr) : Option Blk := @Tr.rec (fun _ => Option Blk) none (fun _ v _ _ _ => v) t

def Tr.put : Nat → Tr → Nat → Option Blk → Tr :=
  @Nat.rec (fun _ => Tr → Nat → Option Blk → Tr) (fun t _ _ => t)
    (fun _ ih t i x => @Nat.rec (fun _ => Tr) (.node t.left x t.right) (fun j _ => @Bool.rec (fun _ => Tr) (.node t.left t.top (ih t.right (j / 2) x)) (.node (ih t.left (j / 2) x) t.top t.right) (Nat.beq (j % 2) 0)) i)

theorem beq_off {a b : Nat} (h : a ≠ b) : Nat.beq a b = false := by
  cases hb : Nat.beq a b with
  | false => rfl
  | true => exact absurd (Nat.eq_of_beq_eq_true hb) h

theorem Tr.get_eq (t : Tr) (i : Nat) : t.get i = if i = 0 then t.top else if i % 2 = 1 then t.left.get (i / 2) else t.right.get (i / 2 - 1) := by
  cases i with
  | zero => cases t <;> rfl
  | succ j =>
    rw [if_neg (by omega)]
    cases t with
    | leaf => show none = _; split <;> rfl
    | node l v r =>
      show @Bool.rec (fun _ => Option Blk) (r.get (j / 2)) (l.get (j / 2)) (Nat.beq (j % 2) 0) = _
      by_cases h : j % 2 = 0
      · rw [h, if_pos (by omega), show (j + 1) / 2 = j / 2 from by omega]; rfl
      · rw [beq_off h, if_neg (by omega), show (j + 1) / 2 - 1 = j / 2 from by omega]; rfl
theorem Tr.put_eq (f : Nat) (t : Tr) (i : Nat) (x : Option Blk) : Tr.put (f + 1) t i x =
    if i = 0 then .node t.left x t.right
    else if i % 2 = 1 then .node (Tr.put f t.left (i / 2) x) t.top t.right
    else .node t.left t.top (Tr.put f t.right (i / 2 - 1) x) := by
  cases i with
  | zero => rfl
  | succ j =>
    rw [if_neg (by omega)]
    show @Bool.rec (fun _ => Tr) (Tr.node t.left t.top (Tr.put f t.right (j / 2) x)) (.node (Tr.put f t.left (j / 2) x) t.top t.right) (Nat.beq (j % 2) 0) = _
    by_cases h : j % 2 = 0
    · rw [h, if_pos (by omega), show (j + 1) / 2 = j / 2 from by omega]; rfl
    · rw [beq_off h, if_neg (by omega), show (j + 1) / 2 - 1 = j / 2 from by omega]

@[simp] theorem Tr.top_node (l : Tr) (v : Option Blk) (r : Tr) : (Tr.node l v r).top = v := rfl
@[simp] theorem Tr.left_node (l : Tr) (v : Option Blk) (r : Tr) : (Tr.node l v r).left = l := rfl
@[simp] theorem Tr.right_node (l : Tr) (v : Option Blk) (r : Tr) : (Tr.node l v r).right = r := rfl

theorem Tr.get_put : ∀ (f : Nat) (t : Tr) (i j : Nat) (x : Option Blk), i < f → (Tr.put f t i x).get j = if j = i then x else t.get j
  | 0, _, _, _, _, h => by omega
  | f + 1, t, i, j, x, h => by
    rw [Tr.get_eq, Tr.get_eq t]
    rw [Tr.put_eq]
    by_cases hi : i = 0
    · subst hi
      by_cases hj : j = 0 <;> simp [hj]
    · rw [if_neg hi]
      by_cases ho : i % 2 = 1
      · rw [if_pos ho]
        simp only [Tr.top_node, Tr.left_node, Tr.right_node]
        by_cases hj : j = 0
        · simp [hj]; omega
        · rw [if_neg hj, if_neg hj]
          by_cases hjo : j % 2 = 1
          · rw [if_pos hjo, if_pos hjo, Tr.get_put f _ _ _ _ (by omega)]
            by_cases e : j = i
            · subst e; simp
            · rw [if_neg e, if_neg (by omega)]
          · rw [if_neg hjo, if_neg hjo, if_neg (by omega)]
      · rw [if_neg ho]
        simp only [Tr.top_node, Tr.left_node, Tr.right_node]
        by_cases hj : j = 0
        · simp [hj]; omega
        · rw [if_neg hj, if_neg hj]
          by_cases hjo : j % 2 = 1
          · rw [if_pos hjo, if_pos hjo, if_neg (by omega)]
          · rw [if_neg hjo, if_neg hjo, Tr.get_put f _ _ _ _ (by omega)]
            by_cases e : j = i
            · subst e; simp
            · rw [if_neg e, if_neg (by omega)]

/-- The heap: the next number, the blocks. -/
structure Hp where
  next : Nat
  tab : Tr

def Hp.get (h : Hp) (b : Nat) : Option Blk := if b < h.next then h.tab.get b else none
def Hp.push (h : Hp) (x : Blk) : Hp := ⟨h.next + 1, Tr.put (h.next + 1) h.tab h.next (some x)⟩
def Hp.put (h : Hp) (b : Nat) (x : Option Blk) : Hp := ⟨h.next, Tr.put (b + 1) h.tab b x⟩

theorem Hp.get_push (h : Hp) (x : Blk) (b : Nat) : (h.push x).get b = if b = h.next then some x else h.get b := by
  unfold Hp.get Hp.push
  simp only [Tr.get_put _ _ _ _ _ (Nat.lt_succ_self h.next)]
  by_cases e : b = h.next
  · subst e; simp
  · by_cases hl : b < h.next
    · simp [e, hl]; omega
    · simp [e, hl]; omega
theorem Hp.get_put (h : Hp) (b c : Nat) (x : Option Blk) (hb : b < h.next) : (h.put b x).get c = if c = b then x else h.get c := by
  unfold Hp.get Hp.put
  simp only [Tr.get_put _ _ _ _ _ (Nat.lt_succ_self b)]
  by_cases e : c = b
  · subst e; simp [hb]
  · simp [e]
theorem Hp.lt_of_get {h : Hp} {b : Nat} {x : Blk} (e : h.get b = some x) : b < h.next := by
  unfold Hp.get at e
  by_cases hl : b < h.next
  · exact hl
  · simp [hl] at e
@[simp] theorem Hp.next_push (h : Hp) (x : Blk) : (h.push x).next = h.next + 1 := rfl
@[simp] theorem Hp.next_put (h : Hp) (b : Nat) (x : Option Blk) : (h.put b x).next = h.next := rfl

/-- A value without an address. -/
def plainV : Value → Bool
  | .agg cs => cs.toList.all plain1
  | .tuple vs => vs.isEmpty
  | v => plain1 v

/-- A value without an address, no tuple. -/
def plainA : Value → Bool
  | .agg cs => cs.toList.all plain1
  | v => plain1 v

def noTuple : Value → Bool
  | .tuple _ => false
  | _ => true

/-- A value of one cell that is no function value with parts of its own and no interface value. -/
def isBasic : Value → Bool
  | .func (.yield _) _ _ => true
  | .func _ a b => a.isEmpty && b.isEmpty
  | .iface .. | .agg _ | .tuple _ => false
  | _ => true

/-- What a Sem comes to that looks at the program alone. -/
def evalSem (P : Program) {α : Type} : Sem α → Option α
  | .pure a => some a
  | .program k => evalSem P (k P)
  | .mark _ k => evalSem P k
  | _ => none

theorem evalSem_run (P : Program) {α : Type} (s : Sem α) (a : α) (h : evalSem P s = some a) (w : World) : s.run P w = .ok a w := by
  induction s with
  | pure x => simp [evalSem] at h; subst h; rfl
  | program k ih => simp only [evalSem] at h; simp only [Sem.run]; exact ih P h
  | mark m k ih => simp only [evalSem] at h; simp only [Sem.run]; exact ih h
  | _ => simp [evalSem] at h

def evA (tmps : List Value) : Operand → Value
  | .tmp t => tmps.getD t undef
  | .const v => v
  | .global _ => undef
  | .func f => .func (.func f) #[] #[]

def okOperand : Operand → Bool
  | .tmp _ | .func _ => true
  | .const v => plainV v
  | .global _ => false

def isAggD : TypeDesc → Bool
  | .struct _ | .array _ _ => true
  | _ => false

def szA (P : Program) (t : TypeId) : Option Nat := (P.info? t).map (·.size)

def filterPlain (v : Option Value) : Option Value :=
  match v with
  | some x => if plainV x then some x else none
  | none => none

/-- Strings: the operators, over lists of bytes. -/
def strOp (op : BinOp) (x y : ByteArray) : Option Value :=
  match op with
  | .add => if ((x.size + y.size : Nat) : Int) > IntKind.i64.max then none else some (.string (x ++ y))
  | .eql => some (.bool (x.data.toList == y.data.toList))
  | .neq => some (.bool !(x.data.toList == y.data.toList))
  | .lss => some (.bool (Op.bytesLess x.data.toList y.data.toList))
  | .leq => some (.bool (Op.bytesLess x.data.toList y.data.toList || x.data.toList == y.data.toList))
  | .gtr => some (.bool !(Op.bytesLess x.data.toList y.data.toList || x.data.toList == y.data.toList))
  | .geq => some (.bool !(Op.bytesLess x.data.toList y.data.toList))
  | _ => none

def eqA (P : Program) (t : TypeId) (a b : Value) : Option Bool :=
  match P.underlying t, a, b with
  | some (.pointer _), .pointer none, .pointer b => some b.isNone
  | some (.pointer _), .pointer (some _), .pointer none => some false
  | some (.slice _), .slice none _ _, .slice b _ _ => some b.isNone
  | some (.slice _), .slice (some _) _ _, .slice none _ _ => some false
  | some (.map _ _), .map none, .map b => some b.isNone
  | some (.map _ _), .map (some _), .map none => some false
  | _, _, _ => none

def binA (P : Program) (op : BinOp) (t : TypeId) (x y : Operand) (a b : Value) : Option Value :=
  match a, b with
  | .string s, .string u => strOp op s u
  | a, b =>
    if plainV a && plainV b then filterPlain (evalSem P (do eqGuard op t x y a b; binOp op t a b))
    else match op with
      | .eql => (eqA P t a b).map .bool
      | .neq => (eqA P t a b).map fun r => .bool !r
      | _ => none

def partA (P : Program) (t : TypeId) (cs : List Value) (off : Nat) : Option Value :=
  match P.underlying t, szA P t with
  | some d, some n => if isAggD d then (if off + n ≤ cs.length then some (.agg ((cs.drop off).take n).toArray) else none) else cs[off]?
  | _, _ => none

def fieldA (P : Program) (t : TypeId) (v : Value) (f : Nat) : Option Value :=
  match P.underlying t, v with
  | some (.struct fs), .agg cs => match fs[f]? with
    | some fd => partA P fd.type cs.toList fd.offset
    | none => none
  | _, _ => none

def indexA (P : Program) (t : TypeId) (v i : Value) : Option Value :=
  match i with
  | .int _ n => match P.underlying t, v with
    | some (.array len elem), .agg cs => match szA P elem with
      | some sz => if 0 ≤ n ∧ n < len then partA P elem cs.toList (n.toNat * sz) else none
      | none => none
    | some .string, .string s => if 0 ≤ n then (s.data.toList[n.toNat]?).map fun b => .int .u8 b.toNat else none
    | _, _ => none
  | _ => none

def fieldAddrA (P : Program) (s : TypeId) (v : Value) (f : Nat) : Option Value :=
  match P.underlying s, v with
  | some (.struct fs), .pointer (some ⟨b, o, none⟩) => match fs[f]? with
    | some fd => match szA P fd.type with
      | some (_ + 1) => some (.pointer (some ⟨b, o + fd.offset, none⟩))
      | _ => none
    | none => none
  | _, _ => none

def indexAddrA (P : Program) (t : TypeId) (v i : Value) : Option Value :=
  match i with
  | .int _ n => match P.underlying t, v with
    | some (.array len elem), .pointer (some ⟨b, o, none⟩) => match szA P elem with
      | some sz => if 0 ≤ n ∧ n < len then some (.pointer (some ⟨b, o + n.toNat * sz, none⟩)) else none
      | none => none
    | some (.slice elem), .slice (some ⟨b, o, none⟩) len _ => match szA P elem with
      | some sz => if 0 ≤ n ∧ n < len then some (.pointer (some ⟨b, o + n.toNat * sz, none⟩)) else none
      | none => none
    | _, _ => none
  | _ => none

/-- A bound of a slice expression: none: the default. -/
def boundA (x : Option Value) (dflt most : Nat) : Option Nat :=
  match x with
  | none => some dflt
  | some (.int _ n) => if 0 ≤ n ∧ n ≤ most then some n.toNat else none
  | some _ => none

def sliceRow (b o sz len cap : Nat) (lo hi mx : Option Value) : Option Value :=
  let known := if isUnk cap then len else cap
  match mx with
  | some m => match hi with
    | none => none
    | some _ => match boundA (some m) 0 known with
      | none => none
      | some m => match boundA hi 0 m with
        | none => none
        | some h => match boundA lo 0 h with
          | none => none
          | some l => if m < UNK0 then some (.slice (some ⟨b, if m = l then o else o + l * sz, none⟩) (h - l) (m - l)) else none
  | none => match boundA hi len known with
    | none => none
    | some h => match boundA lo 0 h with
      | none => none
      | some l =>
        if isUnk cap then (if cap = unk sz then some (.slice (some ⟨b, o + l * sz, none⟩) (h - l) cap) else none)
        else some (.slice (some ⟨b, if cap = l then o else o + l * sz, none⟩) (h - l) (cap - l))

def sliceA (P : Program) (t : TypeId) (v : Value) (lo hi mx : Option Value) : Option Value :=
  match P.underlying t, v with
  | some (.array n elem), .pointer (some ⟨b, o, none⟩) => match szA P elem with
    | some sz => if isUnk n then none else sliceRow b o sz n n lo hi mx
    | none => none
  | some .string, .string s => match mx with
    | some _ => none
    | none => match boundA hi s.data.toList.length s.data.toList.length with
      | none => none
      | some h => match boundA lo 0 h with
        | none => none
        | some l => some (.string ⟨((s.data.toList.drop l).take (h - l)).toArray⟩)
  | some (.slice elem), .slice (some ⟨b, o, none⟩) len cap => match szA P elem with
    | some sz => sliceRow b o sz len cap lo hi mx
    | none => none
  | some (.slice elem), .slice none 0 0 => match szA P elem, mx with
    | some _, none => match boundA hi 0 0 with
      | none => none
      | some _ => match boundA lo 0 0 with
        | none => none
        | some _ => some (.slice none 0 0)
    | _, _ => none
  | _, _ => none

/-- Some cells of a row, written over. -/
def spliceL (cs : List Value) (o : Nat) : List Value → List Value
  | [] => cs
  | v :: r => spliceL (cs.set o v) (o + 1) r

/-- What a struct or an array is built of: parts laid over zeroes. -/
def fillA (place : Nat → Option (Nat × Nat)) (cells : List Value) : List (Nat × Value) → Option (List Value)
  | [] => some cells
  | (i, v) :: rest =>
    match place i with
    | none => none
    | some (off, size) =>
      if v.cells.size = size ∧ off + size ≤ cells.length then fillA place (spliceL cells off v.cells.toList) rest
      else none

def placesA (P : Program) (fs : List Field) : Option (List (Nat × Nat)) :=
  match fs with
  | [] => some []
  | f :: r => match szA P f.type, placesA P r with
    | some n, some l => some ((f.offset, n) :: l)
    | _, _ => none

def zeroA (P : Program) (t : TypeId) : Option Value :=
  match P.info? t with
  | some i => match i.zero with
    | some z => if plainA z then some z else none
    | none => none
  | none => none

def buildA (P : Program) (t : TypeId) (parts : List (Nat × Value)) : Option Value :=
  match zeroA P t, P.underlying t with
  | some z, some (.struct fs) => match placesA P fs.toList with
    | some pl => (fillA (pl[·]?) z.cells.toList parts).map fun cs => .agg cs.toArray
    | none => none
  | some z, some (.array _ elem) => match szA P elem with
    | some n => (fillA (fun i => some (i * n, n)) z.cells.toList parts).map fun cs => .agg cs.toArray
    | none => none
  | _, _ => none

def builtinT (P : Program) (b : Builtin) (argTypes : Array TypeId) (ty : TypeId) (args : List Value) : Option Value :=
  match b with
  | .len => match argTypes[0]? with
    | some t => match P.underlying t, args with
      | some .string, [.string s] => some (goInt s.data.toList.length)
      | some (.array n _), [_] => some (goInt n)
      | some (.slice _), [.slice _ n _] => some (goInt n)
      | _, _ => none
    | none => none
  | .cap => match argTypes[0]? with
    | some t => match P.underlying t, args with
      | some (.array n _), [_] => some (goInt n)
      | some (.slice _), [.slice _ _ k] => if isUnk k then none else some (goInt k)
      | _, _ => none
    | none => none
  | .min => if args.all plainV then filterPlain (evalSem P (Builtin.min_ argTypes ty args.toArray)) else none
  | .max => if args.all plainV then filterPlain (evalSem P (Builtin.max_ argTypes ty args.toArray)) else none
  | .complex => if args.all plainV then filterPlain (evalSem P (Builtin.complex_ argTypes ty args.toArray)) else none
  | .real => if args.all plainV then filterPlain (evalSem P (Builtin.real_ argTypes ty args.toArray)) else none
  | .imag => if args.all plainV then filterPlain (evalSem P (Builtin.imag_ argTypes ty args.toArray)) else none
  | _ => none

/-- An operation that looks at no memory. -/
def stepT (P : Program) (ρ : Operand → Value) (o : Oper) : Option Value :=
  match o.op with
  | .move x | .assign x => some (ρ x)
  | .pick c a b => match ρ c with
    | .bool t => some (if t then ρ a else ρ b)
    | _ => none
  | .build t parts => if parts.toList.all (fun x => noTuple (ρ x.2)) then buildA P t (parts.toList.map fun (i, x) => (i, ρ x)) else none
  | .nilCheck x => match ρ x with
    | .pointer (some a) => some (.pointer (some a))
    | .func (.func f) fs cs => some (.func (.func f) fs cs)
    | _ => none
  | .binOp op t x y _ => binA P op t x y (ρ x) (ρ y)
  | .unOp op _ x => if plainV (ρ x) then filterPlain (evalSem P (Op.unary op (ρ x))) else none
  | .convert src dst x => if plainV (ρ x) then filterPlain (evalSem P (convert src dst (ρ x))) else none
  | .fieldAddr s x f => fieldAddrA P s (ρ x) f
  | .field t x f => fieldA P t (ρ x) f
  | .indexAddr t x i => indexAddrA P t (ρ x) (ρ i)
  | .index t x i => indexA P t (ρ x) (ρ i)
  | .slice t x lo hi mx => sliceA P t (ρ x) (lo.map ρ) (hi.map ρ) (mx.map ρ)
  | .makeFunc fn first cap => if !isYield fn && (first.toList.all fun x => isBasic (ρ x)) && (cap.toList.all fun x => isBasic (ρ x)) then some (.func fn (first.map ρ) (cap.map ρ)) else none
  | .extract x i => match ρ x with
    | .tuple vs => match vs[i]? with
      | some v => if noTuple v then some v else none
      | none => none
    | _ => none
  | .makeInterface t x => match P.underlying t with
    | some (.interface _) => none
    | some _ => if isBasic (ρ x) then some (.iface t (ρ x)) else none
    | none => none
  | .typeAssert x _ asserted ok => match P.underlying asserted, ρ x with
    | some (.interface _), _ => none
    | some _, .iface t v => if t = asserted then some (if ok then .tuple #[v, .bool true] else v) else none
    | _, _ => none
  | .call { callee := .builtin b, args, argTypes } => builtinT P b argTypes o.type (args.toList.map ρ)
  | _ => none

def Hp.row (h : Hp) (b : Nat) : Option (List Value) :=
  match h.get b with
  | some (.cells cs _) => some cs
  | _ => none

/-- n cells from a place on. -/
def Hp.cells (h : Hp) (b o n : Nat) : Option (List Value) :=
  match h.row b with
  | some cs => if o + n ≤ cs.length then some ((cs.drop o).take n) else none
  | none => none

def loadA (P : Program) (t : TypeId) (v : Value) (h : Hp) : Option Value :=
  match v with
  | .pointer (some ⟨b, o, none⟩) => match P.underlying t, szA P t, h.row b with
    | some d, some n, some cs =>
      if isAggD d then (if o + n ≤ cs.length then some (.agg ((cs.drop o).take n).toArray) else none) else cs[o]?
    | _, _, _ => none
  | _ => none

def keyKind : TypeDesc → Bool
  | .int _ | .string | .bool => true
  | _ => false

def mapRow (h : Hp) (v : Value) : Option (List MapEntry) :=
  match v with
  | .map none => some []
  | .map (some r) => match h.get r with
    | some (.map es _) => some es
    | _ => none
  | _ => none

def lookupA (P : Program) (t : TypeId) (m key : Value) (ok : Bool) (h : Hp) : Option Value :=
  match P.underlying t with
  | some (.map kt et) => match P.underlying kt, mapRow h m with
    | some kd, some es =>
      if keyKind kd && plain1 key then
        match Instr.findNow kd key es 0 with
        | some (some (_, v)) => some (if ok then .tuple #[v, .bool true] else v)
        | some none => match zeroA P et with
          | some z => some (if ok then .tuple #[z, .bool false] else z)
          | none => none
        | none => none
      else none
    | _, _ => none
  | _ => none

def byteOf? : Value → Option UInt8
  | .int .u8 n => some (UInt8.ofNat n.toNat)
  | _ => none

def bytesOf? : List Value → Option (List UInt8)
  | [] => some []
  | v :: r => match byteOf? v, bytesOf? r with
    | some b, some l => some (b :: l)
    | _, _ => none

def bytesA (P : Program) (src : TypeId) (v : Value) (h : Hp) : Option Value :=
  match P.underlying src with
  | some (.slice e) => match P.underlying e with
    | some (.int .u8) => match v with
      | .slice none 0 0 => some (.string ⟨#[]⟩)
      | .slice (some ⟨b, o, none⟩) n _ => match h.cells b o n with
        | some cs => (bytesOf? cs).map fun l => .string ⟨l.toArray⟩
        | none => none
      | _ => none
    | _ => none
  | _ => none

/-- An operation that reads memory. -/
def stepR (P : Program) (ρ : Operand → Value) (o : Oper) (h : Hp) : Option Value :=
  match o.op with
  | .load t a => loadA P t (ρ a) h
  | .lookup t m k ok => lookupA P t (ρ m) (ρ k) ok h
  | .convert src _ x => bytesA P src (ρ x) h
  | .call { callee := .builtin .len, args, argTypes } => match argTypes[0]? with
    | some t => match P.underlying t, args.toList.map ρ with
      | some (.map _ _), [m] => (mapRow h m).map fun es => goInt es.length
      | _, _ => none
    | none => none
  | _ => none

def valBytes (s : ByteArray) : List Value := s.data.toList.map fun b => .int .u8 b.toNat

/-- An operation that makes a block: the block, and what it hands out, of the block's number. -/
def stepN (P : Program) (ρ : Operand → Value) (o : Oper) : Option (Blk × (Nat → Value)) :=
  match o.op with
  | .alloc t => match zeroA P t with
    | some z => some (.cells z.cells.toList false, fun b => .pointer (some ⟨b, 0, none⟩))
    | none => none
  | .box _ x => if (ρ x).cells.toList.all Value.oneCell' then some (.cells (ρ x).cells.toList false, fun b => .pointer (some ⟨b, 0, none⟩)) else none
  | .buildSlice t len parts => match P.underlying t with
    | some (.slice e) => match zeroA P e, szA P e with
      | some z, some (n + 1) =>
        if z.cells.size = n + 1 ∧ len * (n + 1) ≤ 16777216 ∧ parts.toList.all (fun x => noTuple (ρ x.2)) then
          match fillA (fun i => some (i * (n + 1), n + 1)) (List.replicate len z.cells.toList).flatten (parts.toList.map fun (i, x) => (i, ρ x)) with
          | some cs => if cs.all Value.oneCell' then some (.cells cs false, fun b => .slice (some ⟨b, 0, none⟩) len len) else none
          | none => none
        else none
      | _, _ => none
    | _ => none
  | .makeSlice t l c => match P.underlying t with
    | some (.slice e) => match zeroA P e, P.info? e, ρ l, ρ c with
      | some z, some i, .int _ l, .int _ c =>
        if z.cells.size = i.size ∧ 0 < i.size ∧ 0 ≤ l ∧ l ≤ c ∧ c < 4611686018427387904 ∧ i.bytes * c ≤ 140737488355328 then
          some (.cells (List.replicate c.toNat z.cells.toList).flatten false, fun b => .slice (some ⟨b, 0, none⟩) l.toNat c.toNat)
        else none
      | _, _, _, _ => none
    | _ => none
  | .makeMap _ none => some (.map [] 0, fun b => .map (some b))
  | .convert _ dst x => match P.underlying dst, ρ x with
    | some (.slice e), .string s => match P.underlying e with
      | some (.int .u8) => some (.cells (valBytes s) false, fun b => .slice (some ⟨b, 0, none⟩) s.data.toList.length (unk 1))
      | _ => none
    | _, _ => none
  | _ => none

def storeA (P : Program) (t : TypeId) (a x : Value) (h : Hp) : Option Hp :=
  match a with
  | .pointer (some ⟨b, o, none⟩) => match szA P t, h.get b with
    | some n, some (.cells cs false) =>
      if x.cells.size = n ∧ o + n ≤ cs.length ∧ x.cells.toList.all Value.oneCell' then some (h.put b (some (.cells (spliceL cs o x.cells.toList) false))) else none
    | _, _ => none
  | _ => none

def mapUpdateA (P : Program) (t : TypeId) (m key v : Value) (h : Hp) : Option Hp :=
  match P.underlying t, m with
  | some (.map kt _), .map (some r) => match P.underlying kt, h.get r with
    | some kd, some (.map es clock) =>
      if keyKind kd && plain1 key && noTuple v then
        match Instr.findNow kd key es 0 with
        | some (some (i, _)) => some (h.put r (some (.map (es.modify i fun e => { e with key := key, val := v }) clock)))
        | some none => some (h.put r (some (.map (es ++ [{ key := key, val := v, born := clock }]) (clock + 1))))
        | none => none
      else none
    | _, _ => none
  | _, _ => none

def mapEntryA (P : Program) (t : TypeId) (m key : Value) (h : Hp) : Option (Value × Hp) :=
  match P.underlying t, m with
  | some (.map kt et), .map (some r) => match P.underlying kt, h.get r with
    | some kd, some (.map es clock) =>
      if keyKind kd && plain1 key then
        match Instr.findNow kd key es 0 with
        | some (some (i, v)) => some (.tuple #[v, goInt (((es[i]?).map (·.born)).getD 0)], h)
        | some none => match zeroA P et with
          | some z => some (.tuple #[z, goInt clock], h.put r (some (.map (es ++ [{ key := key, val := z, born := clock }]) (clock + 1))))
          | none => none
        | none => none
      else none
    | _, _ => none
  | _, _ => none

def entryStoreA (m stamp v : Value) (h : Hp) : Option Hp :=
  match m, stamp with
  | .map (some r), .int _ born => match h.get r, noTuple v with
    | some (.map es clock), true => match es.findIdx? (fun e => (e.born : Int) == born) with
      | some i => some (h.put r (some (.map (es.modify i fun e => { e with val := v }) clock)))
      | none => none
    | _, _ => none
  | _, _ => none

def deleteA (P : Program) (t : TypeId) (m key : Value) (h : Hp) : Option Hp :=
  match P.underlying t with
  | some (.map kt _) => match P.underlying kt with
    | some kd =>
      if keyKind kd && plain1 key then
        match m with
        | .map none => some h
        | .map (some r) => match h.get r with
          | some (.map es clock) => match Instr.findNow kd key es 0 with
            | some (some (i, _)) => some (h.put r (some (.map (es.eraseIdx i) clock)))
            | some none => some h
            | none => none
          | _ => none
        | _ => none
      else none
    | none => none
  | _ => none

/-- What is appended, or copied from: how many elements, their cells. -/
def sourceA (P : Program) (sz : Nat) (xt : TypeId) (zero : List Value) (x : Value) (h : Hp) : Option (Nat × List Value) :=
  match P.underlying xt, x with
  | some (.int _), .int _ n => if 0 ≤ n ∧ n < 4611686018427387904 then some (n.toNat, (List.replicate n.toNat zero).flatten) else none
  | some (.slice _), .slice none 0 0 => some (0, [])
  | some (.slice _), .slice (some ⟨b, o, none⟩) n _ => match h.cells b o (n * sz) with
    | some cs => some (n, cs)
    | none => if n = 0 then some (0, []) else none
  | some .string, .string s => if sz = 1 then some (s.data.toList.length, valBytes s) else none
  | _, _ => none

def appendA (P : Program) (st xt : TypeId) (s x : Value) (h : Hp) : Option (Value × Hp) :=
  match P.underlying st with
  | some (.slice e) => match P.info? e, zeroA P e with
    | some i, some z =>
      if 0 < i.size ∧ z.cells.size = i.size then
        match sourceA P i.size xt z.cells.toList x h with
        | some (m, news) =>
          if m = 0 then (match s with | .slice _ _ _ => some (s, h) | _ => none)
          else match s with
            | .slice none 0 0 =>
              if m * i.bytes ≤ 140737488355328 ∧ m ≤ 4611686018427387904 then some (.slice (some ⟨h.next, 0, none⟩) m (unk i.size), h.push (.cells news false)) else none
            | .slice (some ⟨b, o, none⟩) len cap =>
              if (len + m) * i.bytes ≤ 140737488355328 ∧ len + m ≤ 4611686018427387904 then
                if isUnk cap then
                  match h.get b with
                  | some (.cells cs false) =>
                    if cap = unk i.size ∧ o + len * i.size ≤ cs.length ∧ len * i.size + news.length ≠ 1 then
                      some (.slice (some ⟨h.next, 0, none⟩) (len + m) cap, (h.put b none).push (.cells ((cs.drop o).take (len * i.size) ++ news) false))
                    else none
                  | _ => none
                else if len + m ≤ cap then
                  match h.get b with
                  | some (.cells cs false) =>
                    if o + (len + m) * i.size ≤ cs.length then some (.slice (some ⟨b, o, none⟩) (len + m) cap, h.put b (some (.cells (spliceL cs (o + len * i.size) news) false)))
                    else none
                  | _ => none
                else match h.cells b o (len * i.size) with
                  | some olds => some (.slice (some ⟨h.next, 0, none⟩) (len + m) (unk i.size), h.push (.cells (olds ++ news) false))
                  | none => none
              else none
            | _ => none
        | none => none
      else none
    | _, _ => none
  | _ => none

def copyA (P : Program) (dt xt : TypeId) (d x : Value) (h : Hp) : Option (Value × Hp) :=
  match P.underlying dt with
  | some (.slice e) => match szA P e with
    | some sz => match P.underlying xt with
      | some (.int _) => none
      | _ => match sourceA P sz xt [] x h, d with
        | some (_, _), .slice none 0 0 => some (goInt 0, h)
        | some (m, news), .slice (some ⟨b, o, none⟩) len _ => match h.get b with
          | some (.cells cs false) =>
            if o + len * sz ≤ cs.length then some (goInt (min m len), h.put b (some (.cells (spliceL cs o (news.take (min m len * sz))) false))) else none
          | _ => none
        | _, _ => none
    | none => none
  | _ => none

/-- An operation that writes memory. -/
def stepE (P : Program) (ρ : Operand → Value) (o : Oper) (h : Hp) : Option (Value × Hp) :=
  match o.op with
  | .store t a x => (storeA P t (ρ a) (ρ x) h).map fun h' => (undef, h')
  | .mapUpdate t m k x | .insert t m k x => (mapUpdateA P t (ρ m) (ρ k) (ρ x) h).map fun h' => (undef, h')
  | .mapEntry t m k => mapEntryA P t (ρ m) (ρ k) h
  | .entryStore _ m s x => (entryStoreA (ρ m) (ρ s) (ρ x) h).map fun h' => (undef, h')
  | .call { callee := .builtin b, args, argTypes } => match b, argTypes.toList, args.toList.map ρ with
    | .append, [st, xt], [s, x] => appendA P st xt s x h
    | .copy, [dt, xt], [d, x] => copyA P dt xt d x h
    | .delete, t :: _, [m, k] => (deleteA P t m k h).map fun h' => (undef, h')
    | _, _, _ => none
  | _ => none

inductive Kind where
  | T | R | N | E | C | bad
  deriving DecidableEq

def kindOf (P : Program) : Op → Kind
  | .move _ | .assign _ | .pick .. | .build .. | .nilCheck _ | .binOp .. | .unOp .. | .fieldAddr .. | .field .. | .indexAddr .. | .index .. | .slice .. | .makeFunc .. | .extract .. | .makeInterface .. | .typeAssert .. => .T
  | .convert src dst _ => match P.underlying src, P.underlying dst with
    | some (.slice _), some .string => .R
    | some .string, some (.slice _) => .N
    | _, _ => .T
  | .load .. | .lookup .. => .R
  | .alloc _ | .box .. | .buildSlice .. | .makeSlice .. | .makeMap .. => .N
  | .store .. | .mapUpdate .. | .insert .. | .mapEntry .. | .entryStore .. => .E
  | .call { callee := .builtin b, argTypes, .. } => match b with
    | .append | .copy | .delete => .E
    | .len => match (argTypes[0]?).bind P.underlying with
      | some (.map _ _) => .R
      | _ => .T
    | .cap | .min | .max | .complex | .real | .imag => .T
    | _ => .bad
  | .call { callee := .value _, .. } => .C
  | _ => .bad

structure St where
  tmps : List Value
  h : Hp

inductive Ex where
  | normal
  | exit (id : Nat)
  | goto (l : Nat)
  | ret
  deriving DecidableEq

def St.put (s : St) (dst : Option Tmp) (v : Value) : List Value :=
  match dst with
  | some d => s.tmps.set d v
  | none => s.tmps

/-- A call of Go code: function, arguments. -/
def callee (ρ : Operand → Value) (c : Call) : Option (FuncId × List Value) :=
  match c.callee with
  | .value f => match ρ f with
    | .func (.func g) first captured => some (g, first.toList ++ (c.args.toList.map ρ) ++ captured.toList)
    | _ => none
  | _ => none

abbrev Caller := FuncId → List Value → Hp → Option (Value × Hp)

/-- One operation that is wanted. -/
def stepO (P : Program) (call : Caller) (o : Oper) (s : St) : Option (Value × Hp) :=
  if o.op.operands.toList.all okOperand then
    match kindOf P o.op with
    | .T => (stepT P (evA s.tmps) o).map fun v => (v, s.h)
    | .R => (stepR P (evA s.tmps) o s.h).map fun v => (v, s.h)
    | .N => (stepN P (evA s.tmps) o).map fun (b, f) => (f s.h.next, s.h.push b)
    | .E => stepE P (evA s.tmps) o s.h
    | .C => match o.op with
      | .call c => match callee (evA s.tmps) c with
        | some (f, args) => call f args s.h
        | none => none
      | _ => none
    | .bad => none
  else none

def yieldedA (ops : Array Oper) (tmps : List Value) (j : Nat) : Option Bool :=
  match ((ops[j]?).bind (·.dst)).bind (tmps[·]?) with
  | some (.bool b) => some b
  | _ => none

def wantedA (ops : Array Oper) (o : Oper) (tmps : List Value) : Bool :=
  match o.guard with
  | none => true
  | some (j, want) => yieldedA ops tmps j == some want

/-- The slot that a guard looks at holds what the evaluator knows. -/
def knownV : Value → Bool
  | .tuple vs => vs.isEmpty
  | .func (.yield 3) _ _ => false
  | _ => true
def liveG (ops : Array Oper) (o : Oper) (tmps : List Value) : Bool :=
  match o.guard with
  | none => true
  | some (j, _) => match ((ops[j]?).bind (·.dst)).bind (tmps[·]?) with
    | some v => knownV v
    | none => true

/-- Operations in their order. -/
def runOps (P : Program) (call : Caller) (ops : Array Oper) : List Oper → St → Option St
  | [], s => some s
  | o :: rest, s =>
    if liveG ops o s.tmps then
    if wantedA ops o s.tmps then
      match stepO P call o s with
      | some (v, h) => runOps P call ops rest ⟨s.put o.dst v, h⟩
      | none => none
    else runOps P call ops rest ⟨s.put o.dst undef, s.h⟩
    else none

/-- A function without a Go body, by its name: what the model stands in for. -/
def externA (name origin : String) (args : List Value) (h : Hp) : Option (Value × Hp) :=
  if origin ≠ "" then none else
  if name = "maps.clone" then
    match args with
    | [.iface t (.map (some r))] => match h.get r with
      | some (.map es clock) => some (.iface t (.map (some h.next)), h.push (.map es clock))
      | _ => none
    | _ => none
  else if name = "internal/bytealg.abigen_runtime_cmpstring" then
    match args with
    | [.string a, .string b] => some (goInt (Lib.compareBytes a.data.toList b.data.toList), h)
    | _ => none
  else none

def resultA (P : Program) (s : St) : ResultVar → Option Value
  | .tmp t => some (s.tmps.getD t undef)
  | .cell a t => loadA P t (s.tmps.getD a undef) s.h

def resultsL (P : Program) (s : St) : List ResultVar → Option (List Value)
  | [] => some []
  | r :: rest => match resultA P s r, resultsL P s rest with
    | some v, some l => some (v :: l)
    | _, _ => none

def resultsA (P : Program) (fn : Func) (s : St) : Option Value :=
  match resultsL P s fn.results.toList with
  | some [v] => some v
  | some vs => if vs.all noTuple then some (.tuple vs.toArray) else none
  | none => none

end
end Go.Abs
