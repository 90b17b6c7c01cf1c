/-
  THE ABSTRACT EVALUATOR, ITS WORDS: a deterministic evaluator of the model's own Code over a heap of blocks with no draws and no capacities.
  Generic over the program. Nothing here is about one program.
-/
import Derived.WalkKit
import Derived.WalkSpells
import Derived.Orders
import Derived.Lib.ConvBytes
import Derived.Lib.Bytealg
import Derived.Laws.IdiomCopy
section
namespace Go.Abs
open Go

noncomputable section

/-- From here on a number says: the capacity is not known; what it is more: the cells of an element. -/
def UNK0 : Nat := 9223372036854775808
def unk (e : Nat) : Nat := 9223372036854775808 + e
def isUnk (k : Nat) : Bool := decide (9223372036854775808 ≤ k)

/-- A row whose length the evaluator does not know: numbers, texts, pairs of texts. -/
inductive Row where
  | ints (k : IntKind) (xs : List Int)
  | bools (xs : List Bool)
  | strs (xs : List ByteArray)
  | pairs (xs : List (ByteArray × ByteArray))
  | vals (z : Value) (xs : List Value)

/-- A value of one cell without an address. -/
def plain1 : Value → Bool
  | .bool _ | .int .. | .float .. | .complex .. | .string _ | .nilFunc | .nilIface => true
  | .pointer none | .map none => true
  | .slice none 0 0 => true
  | .func _ a b => a.isEmpty && b.isEmpty
  | _ => false
def dint (v : Value) : Int := match v with | .int _ n => n | _ => 0
def dstr (v : Value) : ByteArray := match v with | .string s => s | _ => ⟨#[]⟩
def dbool (v : Value) : Bool := match v with | .bool b => b | _ => false
def dels (v : Value) : List Value := match v with | .func (.yield 1) _ xs => xs.toList | _ => []
/-- A cell of an element. -/
def fld (x : Value) (i : Nat) : Value := x.cells.getD i (.bool false)
/-- A cell, of a zero's kind. -/
def norm1 (z x : Value) : Value :=
  match z with
  | .int k _ => .int k (dint x)
  | .string _ => .string (dstr x)
  | .bool _ => .bool (dbool x)
  | .func (.yield 1) f _ => .func (.yield 1) f (dels x).toArray
  | z => if plain1 z then z else .bool false
def cellsN (z x : Value) : List Value :=
  match z with
  | .agg zs => zs.toList.zipIdx.map fun p => norm1 p.1 (fld x p.2)
  | z => [norm1 z x]
/-- All cells of a list of elements. -/
def flatN (z : Value) (xs : List Value) : List Value := xs.flatMap (cellsN z)
def Row.cells : Row → List Value
  | .ints k xs => xs.map (.int k)
  | .bools xs => xs.map .bool
  | .strs xs => xs.map .string
  | .pairs xs => xs.flatMap fun p => [.string p.1, .string p.2]
  | .vals z xs => flatN z xs

/-- A map whose entries are not known: keys and values as raw data, side by side with the model's. -/
def keyB (kz a b : Value) : Bool :=
  match kz with
  | .string _ => (dstr a).data.toList == (dstr b).data.toList
  | .int _ _ => dint a == dint b
  | _ => false
def mfind (kz : Value) (es : List (Value × Value)) (k : Value) : Option Value :=
  match es with
  | [] => none
  | e :: r => if keyB kz e.1 k then some e.2 else mfind kz r k
def mhas (kz : Value) (es : List (Value × Value)) (k : Value) : Bool := (mfind kz es k).isSome
def mget (kz vz : Value) (es : List (Value × Value)) (k : Value) : Value := (mfind kz es k).getD vz
def mput (kz : Value) (es : List (Value × Value)) (k v : Value) : List (Value × Value) :=
  match es with
  | [] => [(k, v)]
  | e :: r => if keyB kz e.1 k then (k, v) :: r else e :: mput kz r k v
def mdel (kz : Value) (es : List (Value × Value)) (k : Value) : List (Value × Value) :=
  match es with
  | [] => []
  | e :: r => if keyB kz e.1 k then r else e :: mdel kz r k
def normE (z x : Value) : Value :=
  match z with
  | .agg zs => .agg (cellsN (.agg zs) x).toArray
  | z => norm1 z x
def isKeyZ (kz : Value) : Bool :=
  match kz with
  | .string _ | .int .. => true
  | _ => false
def wfM (l : List MapEntry) (ck : Nat) : Prop := (∀ e ∈ l, e.born < ck) ∧ (l.map (·.born)).Nodup ∧ (l.map (·.key)).Nodup

/-- A block: a row of cells (ro: it came in and is only read), a map, or a row of unknown length. -/
inductive Blk where
  | cells (cs : List Value) (ro : Bool)
  | map (es : List MapEntry) (clock : Nat)
  | row (r : Row) (ro : Bool)
  | smap (kz vz : Value) (es : List (Value × Value))

/-- A value of one cell that the evaluator does not look into. -/
def mk (v : Value) : Value := .func (.yield 0) #[v] #[]
/-- A slice that nobody writes to any more: an element's zero, the elements (each as it is loaded). -/
def dsl (z : Value) (xs : List Value) : Value := .func (.yield 1) #[z] xs.toArray
/-- A slice that nobody writes to any more, which may be appended to: in place, if the block of that number says so. -/
def osq (z : Value) (xs : List Value) (b q : Nat) : Value := .func (.yield 5) #[z, .slice none b q] xs.toArray
def osl (z : Value) (xs : List Value) (b : Nat) : Value := osq z xs b 0
/-- At its full capacity. -/
def olit (z : Value) (xs : List Value) : Value := osq z xs 0 1
/-- A place in such a slice: the cells from an element's begin on, how many cells from there. -/
def fptr (cs : List Value) (j : Nat) : Value := .func (.yield 2) cs.toArray #[.slice none j 0]
/-- A bool that is not worked out. -/
def mkb (b : Bool) : Value := .func (.yield 3) #[.bool b] #[]
/-- A place in a row of a block: an element's cells, the element, the cell. -/
def rptr (b e i j : Nat) : Value := .func (.yield 4) #[.pointer (some ⟨b, 0, none⟩)] #[.slice none e 0, .slice none i j]
/-- What stands for whatever there is in a slot. -/
def dead : Value := .tuple #[.tuple #[]]
def isYield : Fn → Bool
  | .yield _ => true
  | _ => false
/-- A marked value is no bool, and marked once. -/
def markable : Value → Bool
  | .int .. | .float .. | .complex .. | .string _ | .pointer _ | .slice .. => true
  | _ => false

/-- A tree of blocks by number. -/
inductive Tr where
  | leaf
  | node (l : Tr) (v : Option Blk) (r : Tr)

def Tr.get (t : Tr) : Nat → Option Blk :=
  @Tr.rec (fun _ => Nat → Option Blk) (fun _ => none) (fun _ v _ gl gr i => @Nat.rec (fun _ => Option Blk) v (fun j _ => @Bool.rec (fun _ => Option Blk) (gr (j / 2)) (gl (j / 2)) (Nat.beq (j % 2) 0)) i) t

def Tr.left (t : Tr) : Tr := @Tr.rec (fun _ => Tr) .leaf (fun l _ _ _ _ => l) t
def Tr.right (t : Tr) : Tr := @Tr.rec (fun _ => Tr) .leaf (fun _ _ r _ _ => r) t
def Tr.top (t : Tr) : Option Blk := @Tr.rec (fun _ => Option Blk) none (fun _ v _ _ _ => v) t

def Tr.put : Nat → Tr → Nat → Option Blk → Tr :=
  @Nat.rec (fun _ => Tr → Nat → Option Blk → Tr) (fun t _ _ => t)
    (fun _ ih t i x => @Nat.rec (fun _ => Tr) (.node t.left x t.right) (fun j _ => @Bool.rec (fun _ => Tr) (.node t.left t.top (ih t.right (j / 2) x)) (.node (ih t.left (j / 2) x) t.top t.right) (Nat.beq (j % 2) 0)) i)

theorem beq_off {a b : Nat} (h : a ≠ b) : Nat.beq a b = false := by
  cases hb : Nat.beq a b with
  | false => rfl
  | true => exact absurd (Nat.eq_of_beq_eq_true hb) h

theorem Tr.get_eq (t : Tr) (i : Nat) : t.get i = if i = 0 then t.top else if i % 2 = 1 then t.left.get (i / 2) else t.right.get (i / 2 - 1) := by
  cases i with
  | zero => cases t <;> rfl
  | succ j =>
    rw [if_neg (by omega)]
    cases t with
    | leaf => show none = _; split <;> rfl
    | node l v r =>
      show @Bool.rec (fun _ => Option Blk) (r.get (j / 2)) (l.get (j / 2)) (Nat.beq (j % 2) 0) = _
      by_cases h : j % 2 = 0
      · rw [h, if_pos (by omega), show (j + 1) / 2 = j / 2 from by omega]; rfl
      · rw [beq_off h, if_neg (by omega), show (j + 1) / 2 - 1 = j / 2 from by omega]; rfl
theorem Tr.put_eq (f : Nat) (t : Tr) (i : Nat) (x : Option Blk) : Tr.put (f + 1) t i x =
    if i = 0 then .node t.left x t.right
    else if i % 2 = 1 then .node (Tr.put f t.left (i / 2) x) t.top t.right
    else .node t.left t.top (Tr.put f t.right (i / 2 - 1) x) := by
  cases i with
  | zero => rfl
  | succ j =>
    rw [if_neg (by omega)]
    show @Bool.rec (fun _ => Tr) (Tr.node t.left t.top (Tr.put f t.right (j / 2) x)) (.node (Tr.put f t.left (j / 2) x) t.top t.right) (Nat.beq (j % 2) 0) = _
    by_cases h : j % 2 = 0
    · rw [h, if_pos (by omega), show (j + 1) / 2 = j / 2 from by omega]; rfl
    · rw [beq_off h, if_neg (by omega), show (j + 1) / 2 - 1 = j / 2 from by omega]

@[simp] theorem Tr.top_node (l : Tr) (v : Option Blk) (r : Tr) : (Tr.node l v r).top = v := rfl
@[simp] theorem Tr.left_node (l : Tr) (v : Option Blk) (r : Tr) : (Tr.node l v r).left = l := rfl
@[simp] theorem Tr.right_node (l : Tr) (v : Option Blk) (r : Tr) : (Tr.node l v r).right = r := rfl

theorem Tr.get_put : ∀ (f : Nat) (t : Tr) (i j : Nat) (x : Option Blk), i < f → (Tr.put f t i x).get j = if j = i then x else t.get j
  | 0, _, _, _, _, h => by omega
  | f + 1, t, i, j, x, h => by
    rw [Tr.get_eq, Tr.get_eq t]
    rw [Tr.put_eq]
    by_cases hi : i = 0
    · subst hi
      by_cases hj : j = 0 <;> simp [hj]
    · rw [if_neg hi]
      by_cases ho : i % 2 = 1
      · rw [if_pos ho]
        simp only [Tr.top_node, Tr.left_node, Tr.right_node]
        by_cases hj : j = 0
        · simp [hj]; omega
        · rw [if_neg hj, if_neg hj]
          by_cases hjo : j % 2 = 1
          · rw [if_pos hjo, if_pos hjo, Tr.get_put f _ _ _ _ (by omega)]
            by_cases e : j = i
            · subst e; simp
            · rw [if_neg e, if_neg (by omega)]
          · rw [if_neg hjo, if_neg hjo, if_neg (by omega)]
      · rw [if_neg ho]
        simp only [Tr.top_node, Tr.left_node, Tr.right_node]
        by_cases hj : j = 0
        · simp [hj]; omega
        · rw [if_neg hj, if_neg hj]
          by_cases hjo : j % 2 = 1
          · rw [if_pos hjo, if_pos hjo, if_neg (by omega)]
          · rw [if_neg hjo, if_neg hjo, Tr.get_put f _ _ _ _ (by omega)]
            by_cases e : j = i
            · subst e; simp
            · rw [if_neg e, if_neg (by omega)]

/-- The heap: the next number, the blocks. -/
structure Hp where
  next : Nat
  tab : Tr

def Hp.get (h : Hp) (b : Nat) : Option Blk := if b < h.next then h.tab.get b else none
def Hp.push (h : Hp) (x : Blk) : Hp := ⟨h.next + 1, Tr.put (h.next + 1) h.tab h.next (some x)⟩
def Hp.put (h : Hp) (b : Nat) (x : Option Blk) : Hp := ⟨h.next, Tr.put (b + 1) h.tab b x⟩

theorem Hp.get_push (h : Hp) (x : Blk) (b : Nat) : (h.push x).get b = if b = h.next then some x else h.get b := by
  unfold Hp.get Hp.push
  simp only [Tr.get_put _ _ _ _ _ (Nat.lt_succ_self h.next)]
  by_cases e : b = h.next
  · subst e; simp
  · by_cases hl : b < h.next
    · simp [e, hl]; omega
    · simp [e, hl]; omega
theorem Hp.get_put (h : Hp) (b c : Nat) (x : Option Blk) (hb : b < h.next) : (h.put b x).get c = if c = b then x else h.get c := by
  unfold Hp.get Hp.put
  simp only [Tr.get_put _ _ _ _ _ (Nat.lt_succ_self b)]
  by_cases e : c = b
  · subst e; simp [hb]
  · simp [e]
theorem Hp.lt_of_get {h : Hp} {b : Nat} {x : Blk} (e : h.get b = some x) : b < h.next := by
  unfold Hp.get at e
  by_cases hl : b < h.next
  · exact hl
  · simp [hl] at e
@[simp] theorem Hp.next_push (h : Hp) (x : Blk) : (h.push x).next = h.next + 1 := rfl
@[simp] theorem Hp.next_put (h : Hp) (b : Nat) (x : Option Blk) : (h.put b x).next = h.next := rfl

/-- A value without an address. -/
def plainV : Value → Bool
  | .agg cs => cs.toList.all plain1
  | .tuple vs => vs.isEmpty
  | v => plain1 v

/-- A value without an address, no tuple. -/
def plainA : Value → Bool
  | .agg cs => cs.toList.all plain1
  | v => plain1 v

def noTuple : Value → Bool
  | .tuple _ => false
  | _ => true

/-- A value of one cell that is no function value with parts of its own and no interface value. -/
def isBasic : Value → Bool
  | .func (.yield _) _ _ => true
  | .func _ a b => a.isEmpty && b.isEmpty
  | .iface .. | .agg _ | .tuple _ => false
  | _ => true

/-- What a Sem comes to that looks at the program alone. -/
def evalSem (P : Program) {α : Type} : Sem α → Option α
  | .pure a => some a
  | .program k => evalSem P (k P)
  | .mark _ k => evalSem P k
  | _ => none

theorem evalSem_run (P : Program) {α : Type} (s : Sem α) (a : α) (h : evalSem P s = some a) (w : World) : s.run P w = .ok a w := by
  induction s with
  | pure x => simp [evalSem] at h; subst h; rfl
  | program k ih => simp only [evalSem] at h; simp only [Sem.run]; exact ih P h
  | mark m k ih => simp only [evalSem] at h; simp only [Sem.run]; exact ih h
  | _ => simp [evalSem] at h

def evA (tmps : List Value) : Operand → Value
  | .tmp t => tmps.getD t undef
  | .const v => v
  | .global _ => undef
  | .func f => .func (.func f) #[] #[]

def okOperand : Operand → Bool
  | .tmp _ | .func _ => true
  | .const v => plainV v
  | .global _ => false

def isAggD : TypeDesc → Bool
  | .struct _ | .array _ _ => true
  | _ => false

def szA (P : Program) (t : TypeId) : Option Nat := (P.info? t).map (·.size)

def filterPlain (v : Option Value) : Option Value :=
  match v with
  | some x => if plainV x then some x else none
  | none => none

/-- Strings: the operators, over lists of bytes. -/
def strOp (op : BinOp) (x y : ByteArray) : Option Value :=
  match op with
  | .add => if ((x.size + y.size : Nat) : Int) > IntKind.i64.max then none else some (.string (x ++ y))
  | .eql => some (.bool (x.data.toList == y.data.toList))
  | .neq => some (.bool !(x.data.toList == y.data.toList))
  | .lss => some (.bool (Op.bytesLess x.data.toList y.data.toList))
  | .leq => some (.bool (Op.bytesLess x.data.toList y.data.toList || x.data.toList == y.data.toList))
  | .gtr => some (.bool !(Op.bytesLess x.data.toList y.data.toList || x.data.toList == y.data.toList))
  | .geq => some (.bool !(Op.bytesLess x.data.toList y.data.toList))
  | _ => none

def eqA (P : Program) (t : TypeId) (a b : Value) : Option Bool :=
  match P.underlying t, a, b with
  | some (.pointer _), .pointer none, .pointer b => some b.isNone
  | some (.pointer _), .pointer (some _), .pointer none => some false
  | some (.slice _), .slice none _ _, .slice b _ _ => some b.isNone
  | some (.slice _), .slice (some _) _ _, .slice none _ _ => some false
  | some (.map _ _), .map none, .map b => some b.isNone
  | some (.map _ _), .map (some _), .map none => some false
  | _, _, _ => none

def binA (P : Program) (op : BinOp) (t : TypeId) (x y : Operand) (a b : Value) : Option Value :=
  match a, b with
  | .string s, .string u => strOp op s u
  | a, b =>
    if plainV a && plainV b then filterPlain (evalSem P (do eqGuard op t x y a b; binOp op t a b))
    else match op with
      | .eql => (eqA P t a b).map .bool
      | .neq => (eqA P t a b).map fun r => .bool !r
      | _ => none

def partA (P : Program) (t : TypeId) (cs : List Value) (off : Nat) : Option Value :=
  match P.underlying t, szA P t with
  | some d, some n => if isAggD d then (if off + n ≤ cs.length then some (.agg ((cs.drop off).take n).toArray) else none) else cs[off]?
  | _, _ => none

def fieldA (P : Program) (t : TypeId) (v : Value) (f : Nat) : Option Value :=
  match P.underlying t, v with
  | some (.struct fs), .agg cs => match fs[f]? with
    | some fd => partA P fd.type cs.toList fd.offset
    | none => none
  | _, _ => none

def indexA (P : Program) (t : TypeId) (v i : Value) : Option Value :=
  match i with
  | .int _ n => match P.underlying t, v with
    | some (.array len elem), .agg cs => match szA P elem with
      | some sz => if 0 ≤ n ∧ n < len then partA P elem cs.toList (n.toNat * sz) else none
      | none => none
    | some .string, .string s => if 0 ≤ n then (s.data.toList[n.toNat]?).map fun b => .int .u8 b.toNat else none
    | _, _ => none
  | _ => none

def fieldAddrA (P : Program) (s : TypeId) (v : Value) (f : Nat) : Option Value :=
  match P.underlying s, v with
  | some (.struct fs), .pointer (some ⟨b, o, none⟩) => match fs[f]? with
    | some fd => match szA P fd.type with
      | some (_ + 1) => some (.pointer (some ⟨b, o + fd.offset, none⟩))
      | _ => none
    | none => none
  | _, _ => none

def indexAddrA (P : Program) (t : TypeId) (v i : Value) : Option Value :=
  match i with
  | .int _ n => match P.underlying t, v with
    | some (.array len elem), .pointer (some ⟨b, o, none⟩) => match szA P elem with
      | some sz => if 0 ≤ n ∧ n < len then some (.pointer (some ⟨b, o + n.toNat * sz, none⟩)) else none
      | none => none
    | some (.slice elem), .slice (some ⟨b, o, none⟩) len _ => match szA P elem with
      | some sz => if 0 ≤ n ∧ n < len then some (.pointer (some ⟨b, o + n.toNat * sz, none⟩)) else none
      | none => none
    | _, _ => none
  | _ => none

/-- A bound of a slice expression: none: the default. -/
def boundA (x : Option Value) (dflt most : Nat) : Option Nat :=
  match x with
  | none => some dflt
  | some (.int _ n) => if 0 ≤ n ∧ n ≤ most then some n.toNat else none
  | some _ => none

def sliceRow (b o sz len cap : Nat) (lo hi mx : Option Value) : Option Value :=
  let known := if isUnk cap then len else cap
  match mx with
  | some m => match hi with
    | none => none
    | some _ => match boundA (some m) 0 known with
      | none => none
      | some m => match boundA hi 0 m with
        | none => none
        | some h => match boundA lo 0 h with
          | none => none
          | some l => if m < UNK0 then some (.slice (some ⟨b, if m = l then o else o + l * sz, none⟩) (h - l) (m - l)) else none
  | none => match boundA hi len known with
    | none => none
    | some h => match boundA lo 0 h with
      | none => none
      | some l =>
        if isUnk cap then (if cap = unk sz then some (.slice (some ⟨b, o + l * sz, none⟩) (h - l) cap) else none)
        else some (.slice (some ⟨b, if cap = l then o else o + l * sz, none⟩) (h - l) (cap - l))

def sliceA (P : Program) (t : TypeId) (v : Value) (lo hi mx : Option Value) : Option Value :=
  match P.underlying t, v with
  | some (.array n elem), .pointer (some ⟨b, o, none⟩) => match szA P elem with
    | some sz => if isUnk n then none else sliceRow b o sz n n lo hi mx
    | none => none
  | some .string, .string s => match mx with
    | some _ => none
    | none => match boundA hi s.data.toList.length s.data.toList.length with
      | none => none
      | some h => match boundA lo 0 h with
        | none => none
        | some l => some (.string ⟨((s.data.toList.drop l).take (h - l)).toArray⟩)
  | some (.slice elem), .slice (some ⟨b, o, none⟩) len cap => match szA P elem with
    | some sz => sliceRow b o sz len cap lo hi mx
    | none => none
  | some (.slice elem), .slice none 0 0 => match szA P elem, mx with
    | some _, none => match boundA hi 0 0 with
      | none => none
      | some _ => match boundA lo 0 0 with
        | none => none
        | some _ => some (.slice none 0 0)
    | _, _ => none
  | _, _ => none

/-- Some cells of a row, written over. -/
def spliceL (cs : List Value) (o : Nat) : List Value → List Value
  | [] => cs
  | v :: r => spliceL (cs.set o v) (o + 1) r

/-- What a struct or an array is built of: parts laid over zeroes. -/
def fillA (place : Nat → Option (Nat × Nat)) (cells : List Value) : List (Nat × Value) → Option (List Value)
  | [] => some cells
  | (i, v) :: rest =>
    match place i with
    | none => none
    | some (off, size) =>
      if v.cells.size = size ∧ off + size ≤ cells.length then fillA place (spliceL cells off v.cells.toList) rest
      else none

def placesA (P : Program) (fs : List Field) : Option (List (Nat × Nat)) :=
  match fs with
  | [] => some []
  | f :: r => match szA P f.type, placesA P r with
    | some n, some l => some ((f.offset, n) :: l)
    | _, _ => none

def zeroA (P : Program) (t : TypeId) : Option Value :=
  match P.info? t with
  | some i => match i.zero with
    | some z => if plainA z then some z else none
    | none => none
  | none => none

def buildA (P : Program) (t : TypeId) (parts : List (Nat × Value)) : Option Value :=
  match zeroA P t, P.underlying t with
  | some z, some (.struct fs) => match placesA P fs.toList with
    | some pl => (fillA (pl[·]?) z.cells.toList parts).map fun cs => .agg cs.toArray
    | none => none
  | some z, some (.array _ elem) => match szA P elem with
    | some n => (fillA (fun i => some (i * n, n)) z.cells.toList parts).map fun cs => .agg cs.toArray
    | none => none
  | _, _ => none

def builtinT (P : Program) (b : Builtin) (argTypes : Array TypeId) (ty : TypeId) (args : List Value) : Option Value :=
  match b with
  | .len => match argTypes[0]? with
    | some t => match P.underlying t, args with
      | some .string, [.string s] => some (goInt s.data.toList.length)
      | some (.array n _), [_] => some (goInt n)
      | some (.slice _), [.slice _ n _] => some (goInt n)
      | _, _ => none
    | none => none
  | .cap => match argTypes[0]? with
    | some t => match P.underlying t, args with
      | some (.array n _), [_] => some (goInt n)
      | some (.slice _), [.slice _ _ k] => if isUnk k then none else some (goInt k)
      | _, _ => none
    | none => none
  | .min => if args.all plainV then filterPlain (evalSem P (Builtin.min_ argTypes ty args.toArray)) else none
  | .max => if args.all plainV then filterPlain (evalSem P (Builtin.max_ argTypes ty args.toArray)) else none
  | .complex => if args.all plainV then filterPlain (evalSem P (Builtin.complex_ argTypes ty args.toArray)) else none
  | .real => if args.all plainV then filterPlain (evalSem P (Builtin.real_ argTypes ty args.toArray)) else none
  | .imag => if args.all plainV then filterPlain (evalSem P (Builtin.imag_ argTypes ty args.toArray)) else none
  | _ => none

/-- An operation that looks at no memory. -/
def stepT (P : Program) (ρ : Operand → Value) (o : Oper) : Option Value :=
  match o.op with
  | .move x | .assign x => some (ρ x)
  | .pick c a b => match ρ c with
    | .bool t => some (if t then ρ a else ρ b)
    | _ => none
  | .build t parts => if parts.toList.all (fun x => noTuple (ρ x.2)) then buildA P t (parts.toList.map fun (i, x) => (i, ρ x)) else none
  | .nilCheck x => match ρ x with
    | .pointer (some a) => some (.pointer (some a))
    | .func (.func f) fs cs => some (.func (.func f) fs cs)
    | _ => none
  | .binOp op t x y _ => binA P op t x y (ρ x) (ρ y)
  | .unOp op _ x => if plainV (ρ x) then filterPlain (evalSem P (Op.unary op (ρ x))) else none
  | .convert src dst x => if plainV (ρ x) then filterPlain (evalSem P (convert src dst (ρ x))) else none
  | .fieldAddr s x f => fieldAddrA P s (ρ x) f
  | .field t x f => fieldA P t (ρ x) f
  | .indexAddr t x i => indexAddrA P t (ρ x) (ρ i)
  | .index t x i => indexA P t (ρ x) (ρ i)
  | .slice t x lo hi mx => sliceA P t (ρ x) (lo.map ρ) (hi.map ρ) (mx.map ρ)
  | .makeFunc fn first cap => if !isYield fn && (first.toList.all fun x => isBasic (ρ x)) && (cap.toList.all fun x => isBasic (ρ x)) then some (.func fn (first.map ρ) (cap.map ρ)) else none
  | .extract x i => match ρ x with
    | .tuple vs => match vs[i]? with
      | some v => if noTuple v then some v else none
      | none => none
    | _ => none
  | .makeInterface t x => match P.underlying t with
    | some (.interface _) => none
    | some _ => if isBasic (ρ x) then some (.iface t (ρ x)) else none
    | none => none
  | .typeAssert x _ asserted ok => match P.underlying asserted, ρ x with
    | some (.interface _), _ => none
    | some _, .iface t v => if t = asserted then some (if ok then .tuple #[v, .bool true] else v) else none
    | _, _ => none
  | .call { callee := .builtin b, args, argTypes } => builtinT P b argTypes o.type (args.toList.map ρ)
  | _ => none

def Hp.row (h : Hp) (b : Nat) : Option (List Value) :=
  match h.get b with
  | some (.cells cs _) => some cs
  | _ => none

/-- n cells from a place on. -/
def Hp.cells (h : Hp) (b o n : Nat) : Option (List Value) :=
  match h.row b with
  | some cs => if o + n ≤ cs.length then some ((cs.drop o).take n) else none
  | none => none

def loadA (P : Program) (t : TypeId) (v : Value) (h : Hp) : Option Value :=
  match v with
  | .pointer (some ⟨b, o, none⟩) => match P.underlying t, szA P t, h.row b with
    | some d, some n, some cs =>
      if isAggD d then (if o + n ≤ cs.length then some (.agg ((cs.drop o).take n).toArray) else none) else cs[o]?
    | _, _, _ => none
  | _ => none

def keyKind : TypeDesc → Bool
  | .int _ | .string | .bool => true
  | _ => false

def mapRow (h : Hp) (v : Value) : Option (List MapEntry) :=
  match v with
  | .map none => some []
  | .map (some r) => match h.get r with
    | some (.map es _) => some es
    | _ => none
  | _ => none

def lookupA (P : Program) (t : TypeId) (m key : Value) (ok : Bool) (h : Hp) : Option Value :=
  match P.underlying t with
  | some (.map kt et) => match P.underlying kt, mapRow h m with
    | some kd, some es =>
      if keyKind kd && plain1 key then
        match Instr.findNow kd key es 0 with
        | some (some (_, v)) => some (if ok then .tuple #[v, .bool true] else v)
        | some none => match zeroA P et with
          | some z => some (if ok then .tuple #[z, .bool false] else z)
          | none => none
        | none => none
      else none
    | _, _ => none
  | _ => none

def byteOf? : Value → Option UInt8
  | .int .u8 n => some (UInt8.ofNat n.toNat)
  | _ => none

def bytesOf? : List Value → Option (List UInt8)
  | [] => some []
  | v :: r => match byteOf? v, bytesOf? r with
    | some b, some l => some (b :: l)
    | _, _ => none

def bytesA (P : Program) (src : TypeId) (v : Value) (h : Hp) : Option Value :=
  match P.underlying src with
  | some (.slice e) => match P.underlying e with
    | some (.int .u8) => match v with
      | .slice none 0 0 => some (.string ⟨#[]⟩)
      | .slice (some ⟨b, o, none⟩) n _ => match h.cells b o n with
        | some cs => (bytesOf? cs).map fun l => .string ⟨l.toArray⟩
        | none => none
      | _ => none
    | _ => none
  | _ => none

/-- An operation that reads memory. -/
def stepR (P : Program) (ρ : Operand → Value) (o : Oper) (h : Hp) : Option Value :=
  match o.op with
  | .load t a => loadA P t (ρ a) h
  | .lookup t m k ok => lookupA P t (ρ m) (ρ k) ok h
  | .convert src _ x => bytesA P src (ρ x) h
  | .call { callee := .builtin .len, args, argTypes } => match argTypes[0]? with
    | some t => match P.underlying t, args.toList.map ρ with
      | some (.map _ _), [m] => (mapRow h m).map fun es => goInt es.length
      | _, _ => none
    | none => none
  | _ => none

def valBytes (s : ByteArray) : List Value := s.data.toList.map fun b => .int .u8 b.toNat

/-- An operation that makes a block: the block, and what it hands out, of the block's number. -/
def stepN (P : Program) (ρ : Operand → Value) (o : Oper) : Option (Blk × (Nat → Value)) :=
  match o.op with
  | .alloc t => match zeroA P t with
    | some z => some (.cells z.cells.toList false, fun b => .pointer (some ⟨b, 0, none⟩))
    | none => none
  | .box _ x => if (ρ x).cells.toList.all Value.oneCell' then some (.cells (ρ x).cells.toList false, fun b => .pointer (some ⟨b, 0, none⟩)) else none
  | .buildSlice t len parts => match P.underlying t with
    | some (.slice e) => match zeroA P e, szA P e with
      | some z, some (n + 1) =>
        if z.cells.size = n + 1 ∧ len * (n + 1) ≤ 16777216 ∧ parts.toList.all (fun x => noTuple (ρ x.2)) then
          match fillA (fun i => some (i * (n + 1), n + 1)) (List.replicate len z.cells.toList).flatten (parts.toList.map fun (i, x) => (i, ρ x)) with
          | some cs => if cs.all Value.oneCell' then some (.cells cs false, fun b => .slice (some ⟨b, 0, none⟩) len len) else none
          | none => none
        else none
      | _, _ => none
    | _ => none
  | .makeSlice t l c => match P.underlying t with
    | some (.slice e) => match zeroA P e, P.info? e, ρ l, ρ c with
      | some z, some i, .int _ l, .int _ c =>
        if z.cells.size = i.size ∧ 0 < i.size ∧ 0 ≤ l ∧ l ≤ c ∧ c < 4611686018427387904 ∧ i.bytes * c ≤ 140737488355328 then
          some (.cells (List.replicate c.toNat z.cells.toList).flatten false, fun b => .slice (some ⟨b, 0, none⟩) l.toNat c.toNat)
        else none
      | _, _, _, _ => none
    | _ => none
  | .makeMap _ none => some (.map [] 0, fun b => .map (some b))
  | .convert _ dst x => match P.underlying dst, ρ x with
    | some (.slice e), .string s => match P.underlying e with
      | some (.int .u8) => some (.cells (valBytes s) false, fun b => .slice (some ⟨b, 0, none⟩) s.data.toList.length (unk 1))
      | _ => none
    | _, _ => none
  | _ => none

def storeA (P : Program) (t : TypeId) (a x : Value) (h : Hp) : Option Hp :=
  match a with
  | .pointer (some ⟨b, o, none⟩) => match szA P t, h.get b with
    | some n, some (.cells cs false) =>
      if x.cells.size = n ∧ o + n ≤ cs.length ∧ x.cells.toList.all Value.oneCell' then some (h.put b (some (.cells (spliceL cs o x.cells.toList) false))) else none
    | _, _ => none
  | _ => none

def mapUpdateA (P : Program) (t : TypeId) (m key v : Value) (h : Hp) : Option Hp :=
  match P.underlying t, m with
  | some (.map kt _), .map (some r) => match P.underlying kt, h.get r with
    | some kd, some (.map es clock) =>
      if keyKind kd && plain1 key && noTuple v then
        match Instr.findNow kd key es 0 with
        | some (some (i, _)) => some (h.put r (some (.map (es.modify i fun e => { e with key := key, val := v }) clock)))
        | some none => some (h.put r (some (.map (es ++ [{ key := key, val := v, born := clock }]) (clock + 1))))
        | none => none
      else none
    | _, _ => none
  | _, _ => none

def mapEntryA (P : Program) (t : TypeId) (m key : Value) (h : Hp) : Option (Value × Hp) :=
  match P.underlying t, m with
  | some (.map kt et), .map (some r) => match P.underlying kt, h.get r with
    | some kd, some (.map es clock) =>
      if keyKind kd && plain1 key then
        match Instr.findNow kd key es 0 with
        | some (some (i, v)) => some (.tuple #[v, goInt (((es[i]?).map (·.born)).getD 0)], h)
        | some none => match zeroA P et with
          | some z => some (.tuple #[z, goInt clock], h.put r (some (.map (es ++ [{ key := key, val := z, born := clock }]) (clock + 1))))
          | none => none
        | none => none
      else none
    | _, _ => none
  | _, _ => none

def entryStoreA (m stamp v : Value) (h : Hp) : Option Hp :=
  match m, stamp with
  | .map (some r), .int _ born => match h.get r, noTuple v with
    | some (.map es clock), true => match es.findIdx? (fun e => (e.born : Int) == born) with
      | some i => some (h.put r (some (.map (es.modify i fun e => { e with val := v }) clock)))
      | none => none
    | _, _ => none
  | _, _ => none

def deleteA (P : Program) (t : TypeId) (m key : Value) (h : Hp) : Option Hp :=
  match P.underlying t with
  | some (.map kt _) => match P.underlying kt with
    | some kd =>
      if keyKind kd && plain1 key then
        match m with
        | .map none => some h
        | .map (some r) => match h.get r with
          | some (.map es clock) => match Instr.findNow kd key es 0 with
            | some (some (i, _)) => some (h.put r (some (.map (es.eraseIdx i) clock)))
            | some none => some h
            | none => none
          | _ => none
        | _ => none
      else none
    | none => none
  | _ => none

/-- What is appended, or copied from: how many elements, their cells. -/
def sourceA (P : Program) (sz : Nat) (xt : TypeId) (zero : List Value) (x : Value) (h : Hp) : Option (Nat × List Value) :=
  match P.underlying xt, x with
  | some (.int _), .int _ n => if 0 ≤ n ∧ n < 4611686018427387904 then some (n.toNat, (List.replicate n.toNat zero).flatten) else none
  | some (.slice _), .slice none 0 0 => some (0, [])
  | some (.slice _), .slice (some ⟨b, o, none⟩) n _ => match h.cells b o (n * sz) with
    | some cs => some (n, cs)
    | none => if n = 0 then some (0, []) else none
  | some .string, .string s => if sz = 1 then some (s.data.toList.length, valBytes s) else none
  | _, _ => none

def appendA (P : Program) (st xt : TypeId) (s x : Value) (h : Hp) : Option (Value × Hp) :=
  match P.underlying st with
  | some (.slice e) => match P.info? e, zeroA P e with
    | some i, some z =>
      if 0 < i.size ∧ z.cells.size = i.size then
        match sourceA P i.size xt z.cells.toList x h with
        | some (m, news) =>
          if m = 0 then (match s with | .slice _ _ _ => some (s, h) | _ => none)
          else match s with
            | .slice none 0 0 =>
              if m * i.bytes ≤ 140737488355328 ∧ m ≤ 4611686018427387904 then some (.slice (some ⟨h.next, 0, none⟩) m (unk i.size), h.push (.cells news false)) else none
            | .slice (some ⟨b, o, none⟩) len cap =>
              if (len + m) * i.bytes ≤ 140737488355328 ∧ len + m ≤ 4611686018427387904 then
                if isUnk cap then
                  match h.get b with
                  | some (.cells cs false) =>
                    if cap = unk i.size ∧ o + len * i.size ≤ cs.length ∧ len * i.size + news.length ≠ 1 then
                      some (.slice (some ⟨h.next, 0, none⟩) (len + m) cap, (h.put b none).push (.cells ((cs.drop o).take (len * i.size) ++ news) false))
                    else none
                  | _ => none
                else if len + m ≤ cap then
                  match h.get b with
                  | some (.cells cs false) =>
                    if o + (len + m) * i.size ≤ cs.length then some (.slice (some ⟨b, o, none⟩) (len + m) cap, h.put b (some (.cells (spliceL cs (o + len * i.size) news) false)))
                    else none
                  | _ => none
                else match h.cells b o (len * i.size) with
                  | some olds => some (.slice (some ⟨h.next, 0, none⟩) (len + m) (unk i.size), h.push (.cells (olds ++ news) false))
                  | none => none
              else none
            | _ => none
        | none => none
      else none
    | _, _ => none
  | _ => none

def copyA (P : Program) (dt xt : TypeId) (d x : Value) (h : Hp) : Option (Value × Hp) :=
  match P.underlying dt with
  | some (.slice e) => match szA P e with
    | some sz => match P.underlying xt with
      | some (.int _) => none
      | _ => match sourceA P sz xt [] x h, d with
        | some (_, _), .slice none 0 0 => some (goInt 0, h)
        | some (m, news), .slice (some ⟨b, o, none⟩) len _ => match h.get b with
          | some (.cells cs false) =>
            if o + len * sz ≤ cs.length then some (goInt (min m len), h.put b (some (.cells (spliceL cs o (news.take (min m len * sz))) false))) else none
          | _ => none
        | _, _ => none
    | none => none
  | _ => none

/-- An operation that writes memory. -/
def stepE (P : Program) (ρ : Operand → Value) (o : Oper) (h : Hp) : Option (Value × Hp) :=
  match o.op with
  | .store t a x => (storeA P t (ρ a) (ρ x) h).map fun h' => (undef, h')
  | .mapUpdate t m k x | .insert t m k x => (mapUpdateA P t (ρ m) (ρ k) (ρ x) h).map fun h' => (undef, h')
  | .mapEntry t m k => mapEntryA P t (ρ m) (ρ k) h
  | .entryStore _ m s x => (entryStoreA (ρ m) (ρ s) (ρ x) h).map fun h' => (undef, h')
  | .call { callee := .builtin b, args, argTypes } => match b, argTypes.toList, args.toList.map ρ with
    | .append, [st, xt], [s, x] => appendA P st xt s x h
    | .copy, [dt, xt], [d, x] => copyA P dt xt d x h
    | .delete, t :: _, [m, k] => (deleteA P t m k h).map fun h' => (undef, h')
    | _, _, _ => none
  | _ => none

inductive Kind where
  | T | R | N | E | C | bad
  deriving DecidableEq

def kindOf (P : Program) : Op → Kind
  | .move _ | .assign _ | .pick .. | .build .. | .nilCheck _ | .binOp .. | .unOp .. | .fieldAddr .. | .field .. | .indexAddr .. | .index .. | .slice .. | .makeFunc .. | .extract .. | .makeInterface .. | .typeAssert .. => .T
  | .convert src dst _ => match P.underlying src, P.underlying dst with
    | some (.slice _), some .string => .R
    | some .string, some (.slice _) => .N
    | _, _ => .T
  | .load .. | .lookup .. => .R
  | .alloc _ | .box .. | .buildSlice .. | .makeSlice .. | .makeMap .. => .N
  | .store .. | .mapUpdate .. | .insert .. | .mapEntry .. | .entryStore .. => .E
  | .call { callee := .builtin b, argTypes, .. } => match b with
    | .append | .copy | .delete => .E
    | .len => match (argTypes[0]?).bind P.underlying with
      | some (.map _ _) => .R
      | _ => .T
    | .cap | .min | .max | .complex | .real | .imag => .T
    | _ => .bad
  | .call { callee := .value _, .. } => .C
  | _ => .bad

structure St where
  tmps : List Value
  h : Hp

inductive Ex where
  | normal
  | exit (id : Nat)
  | goto (l : Nat)
  | ret
  deriving DecidableEq

def St.put (s : St) (dst : Option Tmp) (v : Value) : List Value :=
  match dst with
  | some d => s.tmps.set d v
  | none => s.tmps

/-- A call of Go code: function, arguments. -/
def callee (ρ : Operand → Value) (c : Call) : Option (FuncId × List Value) :=
  match c.callee with
  | .value f => match ρ f with
    | .func (.func g) first captured => some (g, first.toList ++ (c.args.toList.map ρ) ++ captured.toList)
    | _ => none
  | _ => none

abbrev Caller := FuncId → List Value → Hp → Option (Value × Hp)

/-- One operation that is wanted. -/
def stepO (P : Program) (call : Caller) (o : Oper) (s : St) : Option (Value × Hp) :=
  if o.op.operands.toList.all okOperand then
    match kindOf P o.op with
    | .T => (stepT P (evA s.tmps) o).map fun v => (v, s.h)
    | .R => (stepR P (evA s.tmps) o s.h).map fun v => (v, s.h)
    | .N => (stepN P (evA s.tmps) o).map fun (b, f) => (f s.h.next, s.h.push b)
    | .E => stepE P (evA s.tmps) o s.h
    | .C => match o.op with
      | .call c => match callee (evA s.tmps) c with
        | some (f, args) => call f args s.h
        | none => none
      | _ => none
    | .bad => none
  else none

def yieldedA (ops : Array Oper) (tmps : List Value) (j : Nat) : Option Bool :=
  match ((ops[j]?).bind (·.dst)).bind (tmps[·]?) with
  | some (.bool b) => some b
  | _ => none

def wantedA (ops : Array Oper) (o : Oper) (tmps : List Value) : Bool :=
  match o.guard with
  | none => true
  | some (j, want) => yieldedA ops tmps j == some want

/-- The slot that a guard looks at holds what the evaluator knows. -/
def knownV : Value → Bool
  | .tuple vs => vs.isEmpty
  | .func (.yield 3) _ _ => false
  | _ => true
def liveG (ops : Array Oper) (o : Oper) (tmps : List Value) : Bool :=
  match o.guard with
  | none => true
  | some (j, _) => match ((ops[j]?).bind (·.dst)).bind (tmps[·]?) with
    | some v => knownV v
    | none => true

/-- Operations in their order. -/
def runOps (P : Program) (call : Caller) (ops : Array Oper) : List Oper → St → Option St
  | [], s => some s
  | o :: rest, s =>
    if liveG ops o s.tmps then
    if wantedA ops o s.tmps then
      match stepO P call o s with
      | some (v, h) => runOps P call ops rest ⟨s.put o.dst v, h⟩
      | none => none
    else runOps P call ops rest ⟨s.put o.dst undef, s.h⟩
    else none

/-- A function without a Go body, by its name: what the model stands in for. -/
def externA (name origin : String) (args : List Value) (h : Hp) : Option (Value × Hp) :=
  if origin ≠ "" then none else
  if name = "maps.clone" then
    match args with
    | [.iface t (.map (some r))] => match h.get r with
      | some (.map es clock) => some (.iface t (.map (some h.next)), h.push (.map es clock))
      | some (.smap kz vz es) => some (.iface t (.map (some h.next)), h.push (.smap kz vz es))
      | _ => none
    | _ => none
  else if name = "internal/bytealg.abigen_runtime_cmpstring" then
    match args with
    | [.string a, .string b] => some (goInt (Lib.compareBytes a.data.toList b.data.toList), h)
    | _ => none
  else none

def resultA (P : Program) (s : St) : ResultVar → Option Value
  | .tmp t => some (s.tmps.getD t undef)
  | .cell a t => loadA P t (s.tmps.getD a undef) s.h

def resultsL (P : Program) (s : St) : List ResultVar → Option (List Value)
  | [] => some []
  | r :: rest => match resultA P s r, resultsL P s rest with
    | some v, some l => some (v :: l)
    | _, _ => none

def resultsA (P : Program) (fn : Func) (s : St) : Option Value :=
  match resultsL P s fn.results.toList with
  | some [v] => some v
  | some vs => if vs.all noTuple then some (.tuple vs.toArray) else none
  | none => none

end
end Go.Abs
end
section
namespace Go.Abs
open Go

noncomputable section

/-- Does an operation write, call, or make a slice longer? -/
def isEff (P : Program) (o : Oper) : Bool := match kindOf P o.op with | .E | .C | .bad => true | _ => false
def isRead (P : Program) (o : Oper) : Bool := match kindOf P o.op with | .R => true | _ => false

def effs (P : Program) (ops : Array Oper) : List Nat := (List.range ops.size).filter fun i => (ops[i]?).any (isEff P)
def reads (P : Program) (ops : Array Oper) : List Nat := (List.range ops.size).filter fun i => (ops[i]?).any (isRead P)

/-- i comes before j in every order. -/
def ordered (b : Array Nat) (i j : Nat) : Bool := (b.getD j 0).testBit i
def unordered (b : Array Nat) (i j : Nat) : Bool := !ordered b i j && !ordered b j i

def chained (b : Array Nat) : List Nat → Bool
  | [] => true
  | i :: r => r.all (ordered b i) && chained b r

/-- A guard's slot is written by its operation alone. -/
def guardsOk (ops : Array Oper) : Bool := ops.toList.all fun o =>
  match o.guard with
  | none => true
  | some (j, _) => (List.range ops.size).all fun k => k == j || ((ops[k]?).bind (·.dst)) != ((ops[j]?).bind (·.dst))

def staticOk (P : Program) (ops : Array Oper) : Bool :=
  guardsOk ops && chained (Region.before ops) (effs P ops)

/-- The pairs of a read and an effect that aren't ordered. -/
def drawPairs (P : Program) (ops : Array Oper) : List (Nat × Nat) :=
  (reads P ops).flatMap fun i => ((effs P ops).filter fun j => unordered (Region.before ops) i j).map fun j => (i, j)

/-- Operations in their order, with the states ahead of each, and behind the last. -/
def runOpsT (P : Program) (call : Caller) (ops : Array Oper) : List Oper → St → Option (List St)
  | [], s => some [s]
  | o :: rest, s =>
    if liveG ops o s.tmps then
    if wantedA ops o s.tmps then
      match stepO P call o s with
      | some (v, h) => match runOpsT P call ops rest ⟨s.put o.dst v, h⟩ with
        | some l => some (s :: l)
        | none => none
      | none => none
    else match runOpsT P call ops rest ⟨s.put o.dst undef, s.h⟩ with
      | some l => some (s :: l)
      | none => none
    else none

abbrev Chk := Value → Value → Bool

def sameRead (chk : Chk) (P : Program) (o : Oper) (si sj : St) : Bool :=
  match stepR P (evA si.tmps) o si.h, stepR P (evA si.tmps) o sj.h with
  | some u, some v => chk u v
  | _, _ => false

/-- What the read at i gives ahead of and behind the effect at j is what it gave. -/
def pairOk (chk : Chk) (P : Program) (ops : Array Oper) (tr : List St) (p : Nat × Nat) : Bool :=
  match ops[p.1]?, tr[p.1]?, tr[p.2]?, tr[p.2 + 1]? with
  | some o, some si, some sj, some sk => !wantedA ops o si.tmps || (sameRead chk P o si sj && sameRead chk P o si sk)
  | _, _, _, _ => false

def runDraw (chk : Chk) (P : Program) (call : Caller) (ops : Array Oper) (s : St) : Option St :=
  if staticOk P ops then
    match runOpsT P call ops ops.toList s with
    | some tr => if (drawPairs P ops).all (pairOk chk P ops tr) then tr[ops.size]? else none
    | none => none
  else none

def condA (v : Value) : Option Bool := match v with | .bool b => some b | _ => none

/-- Functions that are taken by what is known of them, not by their text. -/
abbrev Known := FuncId → Option (List Value → Hp → Option (Value × Hp))

def callWith (P : Program) (X : Known) (rc : Code → St → Option (Ex × St)) : Caller := fun f args h =>
  match X f with
  | some g => g args h
  | none =>
  match P.funcs[f]? with
  | none => none
  | some fn =>
    match fn.body with
    | none => externA fn.name fn.origin args h
    | some c => match rc c ⟨args ++ List.replicate (fn.ntmps - args.length) undef, h⟩ with
      | some (.normal, s) | some (.ret, s) => match resultsA P fn s with
        | some v => some (v, s.h)
        | none => none
      | _ => none

/-- Code, with so much fuel. -/
def run (chk : Chk) (P : Program) (X : Known) : Nat → Code → St → Option (Ex × St)
  | 0, _, _ => none
  | n + 1, c, s =>
    match c with
    | .skip => some (.normal, s)
    | .label _ => some (.normal, s)
    | .ret => some (.ret, s)
    | .exit id => some (.exit id, s)
    | .goto l => some (.goto l, s)
    | .region _ ops draw =>
      if draw then match runDraw chk P (callWith P X (run chk P X n)) ops s with
        | some s' => some (.normal, s')
        | none => none
      else match runOps P (callWith P X (run chk P X n)) ops ops.toList s with
        | some s' => some (.normal, s')
        | none => none
    | .seq a b => match run chk P X n a s with
      | some (.normal, s1) => run chk P X n b s1
      | r => r
    | .cond c a b => if okOperand c then match condA (evA s.tmps c) with
        | some t => run chk P X n (if t then a else b) s
        | none => none
      else none
    | .block id b => match run chk P X n b s with
      | some (.exit id', s1) => if id' = id then some (.normal, s1) else some (.exit id', s1)
      | r => r
    | .loop b => match run chk P X n b s with
      | some (.normal, s1) => run chk P X n (.loop b) s1
      | r => r
    | .scope b => match run chk P X n b s with
      | some (.goto l, s1) => match findLabel b l with
        | some rest => match run chk P X n rest s1 with
          | some (.goto _, _) => none
          | r => r
        | none => none
      | r => r
    | .rangeFunc .. => none
    | .refuse _ => none

def callN (chk : Chk) (P : Program) (X : Known) (n : Nat) : Caller := callWith P X (run chk P X n)

/-- Two values that are the same, looked at to some depth. -/
def vbeq1 : Value → Value → Bool
  | .bool a, .bool b => a == b
  | .int j a, .int k b => j == k && a == b
  | .float j a, .float k b => j == k && a == b
  | .complex j a c, .complex k b d => j == k && a == b && c == d
  | .string a, .string b => a.data.toList == b.data.toList
  | .pointer a, .pointer b => a == b
  | .slice a n k, .slice b m l => a == b && n == m && k == l
  | .map a, .map b => a == b
  | .nilFunc, .nilFunc => true
  | .nilIface, .nilIface => true
  | .func (.func f) a b, .func (.func g) c d => f == g && a.toList.isEmpty && b.toList.isEmpty && c.toList.isEmpty && d.toList.isEmpty
  | _, _ => false
def vbeqL : List Value → List Value → Bool
  | [], [] => true
  | a :: r, b :: q => vbeq1 a b && vbeqL r q
  | _, _ => false
def vbeq (a b : Value) : Bool :=
  match a, b with
  | .agg xs, .agg ys => vbeqL xs.toList ys.toList
  | .tuple xs, .tuple ys => vbeqL xs.toList ys.toList
  | a, b => vbeq1 a b

def H0 : Hp := ⟨0, .leaf⟩
def X0 : Known := fun _ => none
end
end Go.Abs
end
section
namespace Go.Abs
open Go

def All2 {α β : Type} (R : α → β → Prop) (l : List α) (m : List β) : Prop :=
  l.length = m.length ∧ ∀ (i : Nat) (a : α), l[i]? = some a → ∃ b, m[i]? = some b ∧ R a b

section
variable {α β : Type} {R : α → β → Prop}
theorem All2.nil : All2 R [] [] := ⟨rfl, fun i a h => by simp at h⟩
theorem All2.cons {a : α} {b : β} {l : List α} {m : List β} (h : R a b) (hl : All2 R l m) : All2 R (a :: l) (b :: m) := by
  refine ⟨by simp [hl.1], fun i x hx => ?_⟩
  cases i with
  | zero => simp at hx; subst hx; exact ⟨b, by simp, h⟩
  | succ i => simp at hx; obtain ⟨y, hy, r⟩ := hl.2 i x hx; exact ⟨y, by simpa using hy, r⟩
theorem All2.inv_cons {a : α} {l : List α} {m : List β} (h : All2 R (a :: l) m) : ∃ b m', m = b :: m' ∧ R a b ∧ All2 R l m' := by
  cases m with
  | nil => have := h.1; simp at this
  | cons b m' =>
    refine ⟨b, m', rfl, ?_, ⟨by simpa using h.1, fun i x hx => ?_⟩⟩
    · obtain ⟨y, hy, r⟩ := h.2 0 a (by simp); simp at hy; subst hy; exact r
    · obtain ⟨y, hy, r⟩ := h.2 (i + 1) x (by simpa using hx); exact ⟨y, by simpa using hy, r⟩
theorem All2.inv_nil {m : List β} (h : All2 R [] m) : m = [] :=
  List.eq_nil_of_length_eq_zero h.1.symm
theorem All2.mono {R' : α → β → Prop} {l : List α} {m : List β} (h : All2 R l m) (hr : ∀ a b, a ∈ l → R a b → R' a b) : All2 R' l m :=
  ⟨h.1, fun i a ha => let ⟨b, hb, r⟩ := h.2 i a ha; ⟨b, hb, hr a b (List.mem_of_getElem? ha) r⟩⟩
theorem All2.append {l l' : List α} {m m' : List β} (h : All2 R l m) (h' : All2 R l' m') : All2 R (l ++ l') (m ++ m') := by
  refine ⟨by simp [h.1, h'.1], fun i a ha => ?_⟩
  rw [List.getElem?_append] at ha
  rw [List.getElem?_append, ← h.1]
  split at ha
  · rename_i hl; rw [if_pos hl]; exact h.2 i a ha
  · rename_i hl; rw [if_neg hl]; exact h'.2 _ a ha
theorem All2.take {l : List α} {m : List β} (h : All2 R l m) (n : Nat) : All2 R (l.take n) (m.take n) := by
  refine ⟨by simp [h.1], fun i a ha => ?_⟩
  rw [List.getElem?_take] at ha ⊢
  split at ha
  · rename_i hl; rw [if_pos hl]; exact h.2 i a ha
  · cases ha
theorem All2.drop {l : List α} {m : List β} (h : All2 R l m) (n : Nat) : All2 R (l.drop n) (m.drop n) := by
  refine ⟨by simp [h.1], fun i a ha => ?_⟩
  rw [List.getElem?_drop] at ha ⊢
  exact h.2 _ a ha
theorem All2.set {l : List α} {m : List β} (h : All2 R l m) (n : Nat) {a : α} {b : β} (r : R a b) : All2 R (l.set n a) (m.set n b) := by
  refine ⟨by simp [h.1], fun i x hx => ?_⟩
  rw [List.getElem?_set] at hx ⊢
  split at hx
  · rename_i hn
    rw [if_pos hn]
    split at hx
    · rename_i hl
      simp at hx; subst hx
      exact ⟨b, by rw [if_pos (by rw [← h.1]; exact hl)], r⟩
    · cases hx
  · rename_i hn
    rw [if_neg hn]; exact h.2 i x hx
theorem All2.replicate (n : Nat) {a : α} {b : β} (r : R a b) : All2 R (List.replicate n a) (List.replicate n b) := by
  refine ⟨by simp, fun i x hx => ?_⟩
  rw [List.getElem?_replicate] at hx ⊢
  split at hx
  · rename_i hl; simp at hx; subst hx; exact ⟨b, by rw [if_pos hl], r⟩
  · cases hx
theorem All2.refl {R : α → α → Prop} {l : List α} (h : ∀ a ∈ l, R a a) : All2 R l l :=
  ⟨rfl, fun _ a ha => ⟨a, ha, h a (List.mem_of_getElem? ha)⟩⟩
theorem All2.get {l : List α} {m : List β} (h : All2 R l m) (i : Nat) : (l[i]? = none ∧ m[i]? = none) ∨ ∃ a b, l[i]? = some a ∧ m[i]? = some b ∧ R a b := by
  cases e : l[i]? with
  | none =>
    left
    refine ⟨rfl, ?_⟩
    rw [List.getElem?_eq_none_iff] at e ⊢
    rw [← h.1]; exact e
  | some a => right; obtain ⟨b, hb, r⟩ := h.2 i a e; exact ⟨a, b, rfl, hb, r⟩
theorem All2.map {γ δ : Type} {S : γ → δ → Prop} {l : List α} {m : List β} {f : α → γ} {g : β → δ} (h : All2 R l m) (hr : ∀ a b, R a b → S (f a) (g b)) : All2 S (l.map f) (m.map g) := by
  refine ⟨by simp [h.1], fun i x hx => ?_⟩
  rw [List.getElem?_map] at hx ⊢
  rcases h.get i with ⟨e1, e2⟩ | ⟨a, b, e1, e2, r⟩
  · rw [e1] at hx; cases hx
  · rw [e1] at hx; simp at hx; subst hx; exact ⟨g b, by rw [e2]; rfl, hr a b r⟩
end

structure Pl where
  c : Nat
  s : Nat
  N : Nat

/-- Where blocks are; cells that nobody writes to any more, and what they hold. -/
structure Mu where
  f : Nat → Option Pl
  z : Nat → Nat → Option Value
instance : CoeFun Mu (fun _ => Nat → Option Pl) := ⟨Mu.f⟩

/-- Immutable data, and the model's value that holds it. -/
inductive DR (fz : Nat → Nat → Option Value) : Value → Value → Prop
  | plain {v : Value} : plain1 v = true → DR fz v v
  | nil {z : Value} {a : Option Addr} {k : Nat} : DR fz (dsl z []) (.slice a 0 k)
  | sl {z : Value} {xs : List Value} {c o n k : Nat} (val : Nat → Value) : xs.length = n → n ≤ k →
      (∀ i v, (flatN z xs)[i]? = some v → fz c (o + i) = some (val i)) → (∀ i v, (flatN z xs)[i]? = some v → DR fz v (val i)) → DR fz (dsl z xs) (.slice (some ⟨c, o, none⟩) n k)
theorem DR.mono {fz fz' : Nat → Nat → Option Value} (h : ∀ c i a, fz c i = some a → fz' c i = some a) {v v' : Value} (r : DR fz v v') : DR fz' v v' := by
  induction r with
  | plain e => exact .plain e
  | nil => exact .nil
  | sl val h2 h3 h5 _ ih => exact .sl val h2 h3 (fun i v hi => h _ _ _ (h5 i v hi)) ih
theorem not_plain_dsl {z : Value} {xs : List Value} : plain1 (dsl z xs) = false := rfl
theorem DR.inv {fz : Nat → Nat → Option Value} {z : Value} {xs : List Value} {v' : Value} (r : DR fz (dsl z xs) v') :
    (xs = [] ∧ ∃ a k, v' = .slice a 0 k) ∨ ∃ (c o k : Nat) (val : Nat → Value), v' = .slice (some ⟨c, o, none⟩) xs.length k ∧ xs.length ≤ k ∧
      (∀ i v, (flatN z xs)[i]? = some v → fz c (o + i) = some (val i)) ∧ (∀ i v, (flatN z xs)[i]? = some v → DR fz v (val i)) := by
  generalize hd : dsl z xs = d at r
  cases r with
  | plain e => subst hd; simp [not_plain_dsl] at e
  | nil =>
    simp [dsl] at hd
    exact .inl ⟨hd.2, _, _, rfl⟩
  | @sl z' xs' c o n k val h2 h3 h5 h6 =>
    simp [dsl] at hd
    obtain ⟨rfl, hx⟩ := hd
    subst hx; subst h2
    exact .inr ⟨c, o, k, val, rfl, h3, h5, h6⟩

def isAggV : Value → Bool
  | .agg _ => true
  | _ => false
/-- Raw data in the model. -/
def DRa (fz : Nat → Nat → Option Value) (x v' : Value) : Prop :=
  (isAggV x = false ∧ DR fz x v') ∨ ∃ xs ys, x = .agg xs ∧ v' = .agg ys ∧ All2 (DR fz) xs.toList ys.toList
theorem DRa.mono {fz fz' : Nat → Nat → Option Value} (h : ∀ c i a, fz c i = some a → fz' c i = some a) {v v' : Value} (r : DRa fz v v') : DRa fz' v v' := by
  rcases r with ⟨h1, h2⟩ | ⟨xs, ys, h1, h2, h3⟩
  · exact .inl ⟨h1, h2.mono h⟩
  · exact .inr ⟨xs, ys, h1, h2, h3.mono fun _ _ _ r => r.mono h⟩
/-- An entry of a map whose entries are not known. -/
structure SMR (fz : Nat → Nat → Option Value) (kz vz : Value) (e : Value × Value) (e' : MapEntry) : Prop where
  key : e'.key = norm1 kz e.1
  val : DRa fz (normE vz e.2) e'.val
theorem SMR.mono {fz fz' : Nat → Nat → Option Value} (h : ∀ c i a, fz c i = some a → fz' c i = some a) {kz vz : Value} {e : Value × Value} {e' : MapEntry} (r : SMR fz kz vz e e') : SMR fz' kz vz e e' := ⟨r.key, r.val.mono h⟩

/-- A token stands for any number of one rest: token i, for those that leave i % 4096 when divided by i / 4096. -/
def TokOk (i : Nat) (v : Value) : Prop := ∃ n : Int, v = .int .i64 n ∧ -9223372036854775808 ≤ n ∧ n ≤ 9223372036854775807 ∧ n % ((i / 4096 : Nat) : Int) = ((i % 4096 : Nat) : Int)

inductive VR0 (μ : Mu) : Value → Value → Prop
  | plain {v : Value} : plain1 v = true → VR0 μ v v
  | ptr {b o : Nat} {p : Pl} : μ b = some p → VR0 μ (.pointer (some ⟨b, o, none⟩)) (.pointer (some ⟨p.c, o + p.s, none⟩))
  | slice {b o : Nat} {p : Pl} {n k k' : Nat} : μ b = some p → n ≤ k' → ((UNK0 ≤ k ∧ o + p.s + k' * (k - UNK0) ≤ p.N) ∨ (k = k' ∧ k < UNK0)) →
      VR0 μ (.slice (some ⟨b, o, none⟩) n k) (.slice (some ⟨p.c, o + p.s, none⟩) n k')
  | slice0 {b o : Nat} {p : Pl} {a' : Addr} {k : Nat} : μ b = some p → UNK0 ≤ k ∨ k = 0 → VR0 μ (.slice (some ⟨b, o, none⟩) 0 k) (.slice (some a') 0 0)
  | map {b : Nat} {p : Pl} : μ b = some p → VR0 μ (.map (some b)) (.map (some p.c))
  | tok {i : Nat} {v : Value} : TokOk i v → VR0 μ (.chan (some i)) v
  | mark {v v' : Value} : VR0 μ v v' → markable v = true → VR0 μ (mk v) v'
  | deep {z : Value} {xs : List Value} {v' : Value} : DR μ.z (dsl z xs) v' → VR0 μ (dsl z xs) v'
  | osl {z : Value} {xs : List Value} {b q n k : Nat} {a : Option Addr} : DR μ.z (dsl z xs) (.slice a n k) → xs.length = n → (k = n ∨ q = 0 ∧ ∃ p c o, a = some ⟨c, o, none⟩ ∧ μ b = some p ∧ p.c = c ∧ p.s = o + n * z.cells.size ∧ o + k * z.cells.size ≤ p.N) →
      VR0 μ (Abs.osq z xs b q) (.slice a n k)
  | fptr {cs : List Value} {j c o : Nat} (val : Nat → Value) : (∀ i v, cs[i]? = some v → μ.z c (o + i) = some (val i)) → (∀ i v, cs[i]? = some v → VR0 μ v (val i)) →
      VR0 μ (fptr cs j) (.pointer (some ⟨c, o + j, none⟩))
  | rptr {b e i j : Nat} {p : Pl} : μ b = some p → VR0 μ (rptr b e i j) (.pointer (some ⟨p.c, p.s + i * e + j, none⟩))
  | mbool {b : Bool} : VR0 μ (mkb b) (.bool b)

inductive VR1 (μ : Mu) : Value → Value → Prop
  | zero {v v' : Value} : VR0 μ v v' → VR1 μ v v'
  | func {f : Fn} {a b a' b' : Array Value} : isYield f = false → All2 (VR0 μ) a.toList a'.toList → All2 (VR0 μ) b.toList b'.toList → VR1 μ (.func f a b) (.func f a' b')
  | iface {t : TypeId} {v v' : Value} : VR0 μ v v' → VR1 μ (.iface t v) (.iface t v')

inductive VRa (μ : Mu) : Value → Value → Prop
  | one {v v' : Value} : VR1 μ v v' → VRa μ v v'
  | agg {xs ys : Array Value} : All2 (VR1 μ) xs.toList ys.toList → VRa μ (.agg xs) (.agg ys)

inductive VR (μ : Mu) : Value → Value → Prop
  | a {v v' : Value} : VRa μ v v' → VR μ v v'
  | tup {xs ys : Array Value} : All2 (VRa μ) xs.toList ys.toList → VR μ (.tuple xs) (.tuple ys)
  | dead {v : Value} : VR μ dead v

structure Mu.le (μ μ' : Mu) : Prop where
  f : ∀ b p, μ b = some p → μ' b = some p
  z : ∀ c i a, μ.z c i = some a → μ'.z c i = some a
theorem Mu.le_refl (μ : Mu) : Mu.le μ μ := ⟨fun _ _ h => h, fun _ _ _ h => h⟩
theorem Mu.le_trans {μ μ' μ'' : Mu} (h : Mu.le μ μ') (h' : Mu.le μ' μ'') : Mu.le μ μ'' := ⟨fun b p e => h'.f b p (h.f b p e), fun c i a e => h'.z c i a (h.z c i a e)⟩

theorem VR0.mono {μ μ' : Mu} (h : Mu.le μ μ') {v v' : Value} (r : VR0 μ v v') : VR0 μ' v v' := by
  induction r with
  | mark _ hm ih => exact .mark ih hm
  | plain e => exact .plain e
  | ptr e => exact .ptr (h.f _ _ e)
  | slice e h1 h2 => exact .slice (h.f _ _ e) h1 h2
  | slice0 e1 e => exact .slice0 (h.f _ _ e1) e
  | map e => exact .map (h.f _ _ e)
  | tok e => exact .tok e
  | deep e => exact .deep (e.mono h.z)
  | osl e h1 h2 => exact .osl (e.mono h.z) h1 (h2.imp id fun ⟨hq, p, c, o, h3, h4, h5⟩ => ⟨hq, p, c, o, h3, h.f _ _ h4, h5⟩)
  | fptr val h2 _ ih => exact .fptr val (fun i v hi => h.z _ _ _ (h2 i v hi)) ih
  | rptr e => exact .rptr (h.f _ _ e)
  | mbool => exact .mbool
theorem VR1.mono {μ μ' : Mu} (h : Mu.le μ μ') {v v' : Value} (r : VR1 μ v v') : VR1 μ' v v' := by
  cases r with
  | zero e => exact .zero (e.mono h)
  | func e0 e1 e2 => exact .func e0 (e1.mono fun _ _ _ r => r.mono h) (e2.mono fun _ _ _ r => r.mono h)
  | iface e => exact .iface (e.mono h)
theorem VRa.mono {μ μ' : Mu} (h : Mu.le μ μ') {v v' : Value} (r : VRa μ v v') : VRa μ' v v' := by
  cases r with
  | one e => exact .one (e.mono h)
  | agg e => exact .agg (e.mono fun _ _ _ r => r.mono h)
theorem VR.mono {μ μ' : Mu} (h : Mu.le μ μ') {v v' : Value} (r : VR μ v v') : VR μ' v v' := by
  cases r with
  | a e => exact .a (e.mono h)
  | tup e => exact .tup (e.mono fun _ _ _ r => r.mono h)
  | dead => exact .dead

theorem vr_tok {μ : Mu} {i : Nat} {v : Value} (r : VR μ (.chan (some i)) v) : TokOk i v := by
  cases r with
  | a r => cases r with
    | one r => cases r with
      | zero r => cases r with
        | plain h => simp [Abs.plain1] at h
        | tok h => exact h
theorem VR0.refl_plain {μ : Mu} {v : Value} (h : plain1 v = true) : VR0 μ v v := .plain h
theorem VR1.refl_plain {μ : Mu} {v : Value} (h : plain1 v = true) : VR1 μ v v := .zero (.plain h)
theorem VR.one {μ : Mu} {v v' : Value} (h : VR1 μ v v') : VR μ v v' := .a (.one h)
theorem VR.zero {μ : Mu} {v v' : Value} (h : VR0 μ v v') : VR μ v v' := .a (.one (.zero h))
theorem VR.agg {μ : Mu} {xs ys : Array Value} (h : All2 (VR1 μ) xs.toList ys.toList) : VR μ (.agg xs) (.agg ys) := .a (.agg h)
theorem VR.plain1 {μ : Mu} {v : Value} (h : plain1 v = true) : VR μ v v := .zero (.plain h)
theorem VRa.refl_plain {μ : Mu} {v : Value} (h : plainV v = true) (ht : ∀ vs, v ≠ .tuple vs) : VRa μ v v := by
  cases v with
  | agg cs =>
    refine .agg (All2.refl fun a ha => .refl_plain ?_)
    simp only [plainV, List.all_eq_true] at h
    exact h a ha
  | tuple vs => exact absurd rfl (ht vs)
  | _ => exact .one (.refl_plain (by simpa [plainV] using h))
theorem VR.refl_plain {μ : Mu} {v : Value} (h : plainV v = true) : VR μ v v := by
  by_cases ht : ∃ vs, v = .tuple vs
  · obtain ⟨vs, rfl⟩ := ht
    simp only [plainV, Array.isEmpty_iff] at h
    subst h
    exact .tup (by simp; exact All2.nil)
  · exact .a (.refl_plain h fun vs e => ht ⟨vs, e⟩)
theorem plainA_spec {v : Value} (h : plainA v = true) : plainV v = true ∧ ∀ vs, v ≠ .tuple vs := by
  cases v with
  | tuple vs => simp [plainA, Abs.plain1] at h
  | agg cs => exact ⟨h, fun vs e => by cases e⟩
  | _ => exact ⟨h, fun vs e => by cases e⟩
theorem VR.undef (μ : Mu) : VR μ undef undef := .refl_plain rfl

theorem VR0.eq_of_plain {μ : Mu} {v v' : Value} (r : VR0 μ v v') (h : Abs.plain1 v = true) : v' = v := by
  cases r with
  | plain _ => rfl
  | ptr _ => simp [Abs.plain1] at h
  | slice _ _ _ => simp [Abs.plain1] at h
  | slice0 _ _ => simp [Abs.plain1] at h
  | map _ => simp [Abs.plain1] at h
  | tok _ => simp [Abs.plain1] at h
  | mark _ _ => simp [Abs.plain1, mk] at h
  | deep _ => simp [Abs.plain1, dsl] at h
  | osl _ _ _ => simp [Abs.plain1, Abs.osq] at h
  | fptr _ _ _ => simp [Abs.plain1, Abs.fptr] at h
  | rptr _ => simp [Abs.plain1, Abs.rptr] at h
  | mbool => simp [Abs.plain1, mkb] at h
theorem VR1.eq_of_plain {μ : Mu} {v v' : Value} (r : VR1 μ v v') (h : Abs.plain1 v = true) : v' = v := by
  cases r with
  | zero e => exact e.eq_of_plain h
  | func e0 e1 e2 =>
    simp only [Abs.plain1, Bool.and_eq_true, Array.isEmpty_iff] at h
    obtain ⟨rfl, rfl⟩ := h
    have h1 := e1.inv_nil
    have h2 := e2.inv_nil
    simp at h1 h2
    subst h1; subst h2; rfl
  | iface _ => simp [Abs.plain1] at h
theorem all2_eq_of_plain {μ : Mu} : ∀ {l m : List Value}, All2 (VR1 μ) l m → l.all Abs.plain1 = true → m = l
  | [], m, h, _ => h.inv_nil
  | a :: l, m, h, hp => by
    obtain ⟨b, m', rfl, r, hl⟩ := h.inv_cons
    simp only [List.all_cons, Bool.and_eq_true] at hp
    rw [r.eq_of_plain hp.1, all2_eq_of_plain hl hp.2]
theorem VRa.eq_of_plain {μ : Mu} {v v' : Value} (r : VRa μ v v') (h : plainV v = true) : v' = v := by
  cases r with
  | one e =>
    refine e.eq_of_plain ?_
    cases e with
    | zero e =>
      cases e <;> first | (simpa [plainV] using h) | skip
      · rename_i hp
        exact hp
      · simp [plainV, Abs.plain1, mk] at h
      · simp [plainV, Abs.plain1, dsl] at h
      · simp [plainV, Abs.plain1, Abs.osq] at h
      · simp [plainV, Abs.plain1, Abs.fptr] at h
      · simp [plainV, Abs.plain1, Abs.rptr] at h
      · simp [plainV, Abs.plain1, mkb] at h
    | _ => simpa [plainV] using h
  | agg e =>
    simp only [plainV] at h
    have := all2_eq_of_plain e h
    rw [Array.toList_inj] at this
    rw [this]
theorem VR.eq_of_plain {μ : Mu} {v v' : Value} (r : VR μ v v') (h : plainV v = true) : v' = v := by
  cases r with
  | a e => exact e.eq_of_plain h
  | tup e =>
    simp only [plainV, Array.isEmpty_iff] at h
    subst h
    have := e.inv_nil
    simp at this
    rw [this]
  | dead => simp [plainV, Abs.dead] at h

/-- One cell stays one cell. -/
theorem VR0.oneCell {μ : Mu} {v v' : Value} (r : VR0 μ v v') : v.oneCell' = true ∧ v'.oneCell' = true := by
  induction r with
  | plain h => rename_i v; cases v <;> simp_all [Abs.plain1, Value.oneCell']
  | tok h => obtain ⟨n, rfl, _⟩ := h; exact ⟨rfl, rfl⟩
  | mark _ _ ih => exact ⟨rfl, ih.2⟩
  | deep e => rcases e.inv with ⟨_, a, k, rfl⟩ | ⟨c, o, k, val, rfl, _⟩ <;> exact ⟨rfl, rfl⟩
  | _ => exact ⟨rfl, rfl⟩
theorem VR1.oneCell {μ : Mu} {v v' : Value} (r : VR1 μ v v') : v.oneCell' = true ∧ v'.oneCell' = true := by
  cases r with
  | zero e => exact e.oneCell
  | _ => exact ⟨rfl, rfl⟩
theorem VR.one_of_oneCell {μ : Mu} {v v' : Value} (r : VR μ v v') (h : v.oneCell' = true) : VR1 μ v v' := by
  cases r with
  | a e => cases e with
    | one e => exact e
    | agg _ => simp [Value.oneCell'] at h
  | tup _ => simp [Value.oneCell'] at h
  | dead => simp [Value.oneCell', Abs.dead] at h
theorem VR1.zero_of_basic {μ : Mu} {v v' : Value} (r : VR1 μ v v') (h : isBasic v = true) : VR0 μ v v' := by
  cases r with
  | zero e => exact e
  | @func f a b a' b' e0 e1 e2 =>
    have h : a = #[] ∧ b = #[] := by
      unfold isBasic at h
      split at h
      · rename_i he; cases he; simp [isYield] at e0
      · rename_i he; cases he; simpa only [Bool.and_eq_true, Array.isEmpty_iff] using h
      · rename_i he; cases he
      · rename_i he; cases he
      · rename_i he; cases he
      · rename_i h1 h2 h3 h4; exact absurd rfl (h1 _ _ _)
    obtain ⟨rfl, rfl⟩ := h
    have h1 := e1.inv_nil
    have h2 := e2.inv_nil
    simp at h1 h2
    subst h1; subst h2
    exact .plain rfl
  | iface _ => simp [isBasic] at h
theorem VR.zero_of_basic {μ : Mu} {v v' : Value} (r : VR μ v v') (h : isBasic v = true) : VR0 μ v v' := by
  refine (r.one_of_oneCell ?_).zero_of_basic h
  cases v <;> simp_all [isBasic, Value.oneCell']

/-- The cells of a value. -/
theorem cells_oneCell {v : Value} (h : v.oneCell' = true) : v.cells = #[v] := by
  cases v <;> simp_all [Value.oneCell', Value.cells]
theorem VRa.cells {μ : Mu} {v v' : Value} (r : VRa μ v v') : All2 (VR1 μ) v.cells.toList v'.cells.toList := by
  cases r with
  | one e =>
    rw [cells_oneCell e.oneCell.1, cells_oneCell e.oneCell.2]
    exact All2.cons e All2.nil
  | agg e => simpa [Value.cells] using e
theorem VR.cells {μ : Mu} {v v' : Value} (r : VR μ v v') (h : v.cells.toList.all Value.oneCell' = true) : All2 (VR1 μ) v.cells.toList v'.cells.toList := by
  cases r with
  | a e => exact e.cells
  | tup e => simp [Value.cells, Value.oneCell'] at h
  | dead => simp [Value.cells, Value.oneCell', Abs.dead] at h

/-- The slots. -/
def TR (μ : Mu) (l : List Value) (a : Array Value) : Prop := All2 (VR μ) l a.toList

theorem TR.getD {μ : Mu} {l : List Value} {a : Array Value} (h : TR μ l a) (t : Nat) : VR μ (l.getD t Go.undef) (a.getD t Go.undef) := by
  have := All2.get h t
  rw [List.getD_eq_getElem?_getD, Array.getD_eq_getD_getElem?]
  rcases this with ⟨e1, e2⟩ | ⟨u, v, e1, e2, r⟩
  · rw [Array.getElem?_toList] at e2; rw [e1, e2]; exact .undef μ
  · rw [Array.getElem?_toList] at e2; rw [e1, e2]; exact r
theorem TR.set {μ : Mu} {l : List Value} {a : Array Value} (h : TR μ l a) (t : Nat) {v v' : Value} (r : VR μ v v') : TR μ (l.set t v) (a.setIfInBounds t v') := by
  unfold TR
  rw [Array.toList_setIfInBounds]
  exact All2.set h t r
theorem TR.mono {μ μ' : Mu} (hm : Mu.le μ μ') {l : List Value} {a : Array Value} (h : TR μ l a) : TR μ' l a := All2.mono h fun _ _ _ r => r.mono hm
theorem TR.put {μ : Mu} {s : St} {a : Act} (h : TR μ s.tmps a.tmps) (dst : Option Tmp) {v v' : Value} (r : VR μ v v') : TR μ (s.put dst v) (a.put dst v').tmps := by
  cases dst with
  | none => exact h
  | some d => exact h.set d r

theorem eval_rel {μ : Mu} {l : List Value} {a : Act} (h : TR μ l a.tmps) {x : Operand} (hx : okOperand x = true) : VR μ (evA l x) (a.eval x) := by
  cases x with
  | tmp t => exact h.getD t
  | const v => exact .refl_plain hx
  | global g => simp [okOperand] at hx
  | func f => exact .refl_plain rfl

/-- Two readings of the operands. -/
def OpR (μ : Mu) (ρ ρ' : Operand → Value) (xs : List Operand) : Prop := ∀ x ∈ xs, VR μ (ρ x) (ρ' x)

theorem opR_of {μ : Mu} {l : List Value} {a : Act} (h : TR μ l a.tmps) {xs : List Operand} (hx : xs.all okOperand = true) : OpR μ (evA l) a.eval xs :=
  fun x hm => eval_rel h (List.all_eq_true.1 hx x hm)

theorem mark_notBool {μ : Mu} {v v' : Value} (r : VR0 μ v v') (hm : markable v = true) : ∀ b, v' ≠ .bool b := by
  intro b e
  subst e
  cases r <;> first | (simp [markable, mk, dsl, mkb] at hm; done) | skip

theorem wanted_rel {μ : Mu} {l : List Value} {a : Act} (h : TR μ l a.tmps) (ops : Array Oper) (o : Oper) (hl : liveG ops o l = true) : Region.wanted o (yielded ops a.tmps) = wantedA ops o l := by
  unfold Region.wanted wantedA
  unfold liveG at hl
  cases hgd : o.guard with
  | none => rfl
  | some g =>
    rw [hgd] at hl
    obtain ⟨j, want⟩ := g
    have : yielded ops a.tmps j = yieldedA ops l j := by
      unfold yielded yieldedA
      simp only at hl
      cases hdj : (ops[j]?).bind (·.dst) with
      | none => rfl
      | some t =>
        rw [hdj] at hl
        simp only [Option.bind_some] at hl ⊢
        rcases All2.get h t with ⟨e1, e2⟩ | ⟨u, v, e1, e2, r⟩
        · rw [Array.getElem?_toList] at e2; rw [e1, e2]
        · rw [Array.getElem?_toList] at e2; rw [e1, e2]
          rw [e1] at hl
          cases r with
          | dead => simp [knownV, Abs.dead] at hl
          | a e => cases e with
            | one e => cases e with
              | zero e => cases e with
                | plain hp => rfl
                | tok hp => obtain ⟨n, rfl, _⟩ := hp; rfl
                | mark hp hm =>
                  have := mark_notBool hp hm
                  cases v <;> first | rfl | exact absurd rfl (this _)
                | deep e => rcases e.inv with ⟨_, a, k, rfl⟩ | ⟨c, o, k, val, rfl, _⟩ <;> rfl
                | mbool => simp [knownV, mkb] at hl
                | _ => rfl
              | _ => rfl
            | agg _ => rfl
          | tup _ => rfl
    simp only [this]

end Go.Abs
end
section
namespace Go.Abs
open Go

section
variable {P : Program} {μ : Mu}

theorem szA_run {t : TypeId} {n : Nat} (h : szA P t = some n) (w : World) : (sizeOf t).run P w = .ok n w := by
  unfold szA at h
  cases hi : P.info? t with
  | none => simp [hi] at h
  | some i => simp [hi] at h; subst h; simp [sizeOf, typeInfo, hi]

theorem isAgg_run {t : TypeId} {d : TypeDesc} (h : P.underlying t = some d) (w : World) : (isAgg t).run P w = .ok (isAggD d) w := by
  unfold isAgg
  simp only [Sem.run_bind, run_underlying h, Result.andThen_ok]
  cases d <;> rfl

theorem zeroA_run {t : TypeId} {z : Value} (h : zeroA P t = some z) (w : World) : (zeroValue t).run P w = .ok z w ∧ plainA z = true := by
  unfold zeroA at h
  cases hi : P.info? t with
  | none => simp [hi] at h
  | some i =>
    simp only [hi] at h
    cases hz : i.zero with
    | none => simp [hz] at h
    | some x =>
      simp only [hz] at h
      split at h
      · rename_i hp
        simp at h; subst h
        exact ⟨by simp [zeroValue, typeInfo, hi, hz], hp⟩
      · cases h

theorem filterPlain_some {x : Option Value} {v : Value} (h : filterPlain x = some v) : x = some v ∧ plainV v = true := by
  unfold filterPlain at h
  split at h
  · split at h
    · rename_i hp; simp at h; subst h; exact ⟨rfl, hp⟩
    · cases h
  · cases h

theorem evalPlain {s : Sem Value} {v : Value} (h : filterPlain (evalSem P s) = some v) (w : World) : s.run P w = .ok v w ∧ VR μ v v := by
  obtain ⟨h1, h2⟩ := filterPlain_some h
  exact ⟨evalSem_run P s v h1 w, .refl_plain h2⟩

theorem eqGuard_none (op : BinOp) (t : TypeId) (x y : Operand) (a b : Value) (h : ¬ (a = .nilIface ∧ b = .nilIface)) (h2 : ¬ ∃ xs ys, a = .agg xs ∧ b = .agg ys) :
    eqGuard op t x y a b = pure () := by
  by_cases ho : op = .eql ∨ op = .neq
  · rcases ho with rfl | rfl <;> cases a <;> cases b <;>
      first | rfl | exact absurd ⟨rfl, rfl⟩ h | exact absurd ⟨_, _, rfl, rfl⟩ h2
  · cases op <;> first | rfl | simp at ho

theorem strOp_run {op : BinOp} {x y : ByteArray} {v : Value} (h : strOp op x y = some v) (w : World) : (Op.stringOp op x y).run P w = .ok v w ∧ plainV v = true := by
  cases op <;> simp only [strOp, Op.stringOp, ByteArray.toList_eq] at h ⊢
  case add =>
    split at h
    · cases h
    · rename_i hn
      simp only [Option.some.injEq] at h; subst h
      rw [if_neg hn]
      exact ⟨rfl, rfl⟩
  all_goals first
    | (simp only [Option.some.injEq] at h; subst h; exact ⟨rfl, rfl⟩)
    | cases h

theorem VR.inv_string {s : ByteArray} {v : Value} (h : VR μ (.string s) v) : v = .string s := h.eq_of_plain rfl
theorem VR.inv_bool {s : Bool} {v : Value} (h : VR μ (.bool s) v) : v = .bool s := h.eq_of_plain rfl
theorem VR.inv_int {k : IntKind} {n : Int} {v : Value} (h : VR μ (.int k n) v) : v = .int k n := h.eq_of_plain rfl

/-- What stands for a pointer. -/
theorem VR.inv_ptr {b o : Nat} {v : Value} (h : VR μ (.pointer (some ⟨b, o, none⟩)) v) : ∃ p, μ b = some p ∧ v = .pointer (some ⟨p.c, o + p.s, none⟩) := by
  cases h with
  | a e => cases e with
    | one e => cases e with
      | zero e => cases e with
        | plain h => simp [Abs.plain1] at h
        | ptr e => exact ⟨_, e, rfl⟩
theorem VR.inv_ptr_spot {b o : Nat} {i : Nat} {v : Value} (h : VR μ (.pointer (some ⟨b, o, some i⟩)) v) : False := by
  cases h with
  | a e => cases e with
    | one e => cases e with
      | zero e => cases e with
        | plain h => simp [Abs.plain1] at h
theorem VR.inv_slice {b o n k : Nat} {v : Value} (h : VR μ (.slice (some ⟨b, o, none⟩) n k) v) :
    (∃ p k', μ b = some p ∧ v = .slice (some ⟨p.c, o + p.s, none⟩) n k' ∧ n ≤ k' ∧ ((UNK0 ≤ k ∧ o + p.s + k' * (k - UNK0) ≤ p.N) ∨ (k = k' ∧ k < UNK0))) ∨
    (n = 0 ∧ (UNK0 ≤ k ∨ k = 0) ∧ ∃ a', (∃ p, μ b = some p) ∧ v = .slice (some a') 0 0) := by
  cases h with
  | a e => cases e with
    | one e => cases e with
      | zero e => cases e with
        | plain h => simp [Abs.plain1] at h
        | slice e h1 h2 => exact .inl ⟨_, _, e, rfl, h1, h2⟩
        | slice0 e1 e => exact .inr ⟨rfl, e, _, ⟨_, e1⟩, rfl⟩
theorem VR.inv_slice_spot {b o i n k : Nat} {v : Value} (h : VR μ (.slice (some ⟨b, o, some i⟩) n k) v) : False := by
  cases h with
  | a e => cases e with
    | one e => cases e with
      | zero e => cases e with
        | plain h => simp [Abs.plain1] at h
theorem VR.inv_slice_nil {n k : Nat} {v : Value} (h : VR μ (.slice none n k) v) : n = 0 ∧ k = 0 ∧ v = .slice none 0 0 := by
  cases h with
  | a e => cases e with
    | one e => cases e with
      | zero e => cases e with
        | plain h => cases n <;> cases k <;> simp_all [Abs.plain1]
theorem VR.inv_map {b : Nat} {v : Value} (h : VR μ (.map (some b)) v) : ∃ p, μ b = some p ∧ v = .map (some p.c) := by
  cases h with
  | a e => cases e with
    | one e => cases e with
      | zero e => cases e with
        | plain h => simp [Abs.plain1] at h
        | map e => exact ⟨_, e, rfl⟩
theorem VR.inv_agg {xs : Array Value} {v : Value} (h : VR μ (.agg xs) v) : ∃ ys, v = .agg ys ∧ All2 (VR1 μ) xs.toList ys.toList := by
  cases h with
  | a e => cases e with
    | one e => have := e.oneCell.1; simp [Value.oneCell'] at this
    | agg e => exact ⟨_, rfl, e⟩
theorem VR.inv_tuple {xs : Array Value} {v : Value} (h : VR μ (.tuple xs) v) : (∃ ys, v = .tuple ys ∧ All2 (VRa μ) xs.toList ys.toList) ∨ xs = #[.tuple #[]] := by
  cases h with
  | a e => cases e with
    | one e => have := e.oneCell.1; simp [Value.oneCell'] at this
  | tup e => exact .inl ⟨_, rfl, e⟩
  | dead => exact .inr rfl
theorem VR.inv_func {f : Fn} {a b : Array Value} {v : Value} (h : VR μ (.func f a b) v) (hy : isYield f = false) : ∃ a' b', v = .func f a' b' ∧ All2 (VR0 μ) a.toList a'.toList ∧ All2 (VR0 μ) b.toList b'.toList := by
  cases h with
  | a e => cases e with
    | one e => cases e with
      | zero e => cases e with
        | plain h =>
          simp only [Abs.plain1, Bool.and_eq_true, Array.isEmpty_iff] at h
          obtain ⟨rfl, rfl⟩ := h
          exact ⟨_, _, rfl, All2.nil, All2.nil⟩
        | mark _ _ => simp [isYield] at hy
        | deep _ => simp [isYield] at hy
        | osl _ _ _ => simp [isYield] at hy
        | fptr _ _ _ => simp [isYield] at hy
        | rptr _ => simp [isYield] at hy
        | mbool => simp [isYield] at hy
      | func e0 e1 e2 => exact ⟨_, _, rfl, e1, e2⟩
theorem VR.inv_iface {t : TypeId} {x v : Value} (h : VR μ (.iface t x) v) : ∃ y, v = .iface t y ∧ VR0 μ x y := by
  cases h with
  | a e => cases e with
    | one e => cases e with
      | zero e => cases e with
        | plain h => simp [Abs.plain1] at h
      | iface e => exact ⟨_, rfl, e⟩

/-- A pointer against nil, a slice against nil, a map against nil. -/
theorem eqA_run {t : TypeId} {a b a' b' : Value} {r : Bool} (h : eqA P t a b = some r) (ha : VR μ a a') (hb : VR μ b b') (w : World) :
    (Op.equal t a' b').run P w = .ok r w ∧ (¬ (a' = .nilIface ∧ b' = .nilIface)) ∧ (¬ ∃ xs ys, a' = .agg xs ∧ b' = .agg ys) ∧
    binOp .eql t a' b' = (Op.equal t a' b' >>= fun r => pure (.bool r)) ∧ binOp .neq t a' b' = (Op.equal t a' b' >>= fun r => pure (.bool !r)) := by
  unfold eqA at h
  split at h
  · -- pointer nil, pointer
    rename_i e x hu
    simp only [Option.some.injEq] at h; subst h
    have h1 := ha.eq_of_plain (v := .pointer none) rfl
    subst h1
    have hb' : ∃ y : Option Addr, b' = .pointer y ∧ y.isNone = x.isNone := by
      cases x with
      | none => exact ⟨none, hb.eq_of_plain rfl, rfl⟩
      | some a =>
        obtain ⟨b, o, sp⟩ := a
        cases sp with
        | none => obtain ⟨p, _, rfl⟩ := hb.inv_ptr; exact ⟨_, rfl, rfl⟩
        | some i => exact (hb.inv_ptr_spot).elim
    obtain ⟨y, rfl, hy⟩ := hb'
    refine ⟨?_, by simp, by simp, rfl, rfl⟩
    · rw [← hy]; rw [Op.equal, Op.maxDepth, Op.equalIn]; simp only [Sem.run_bind, run_underlying hu, Result.andThen_ok]; rfl
  · rename_i e x hu
    simp only [Option.some.injEq] at h; subst h
    have h1 := hb.eq_of_plain (v := .pointer none) rfl
    subst h1
    have ha' : ∃ y : Addr, a' = .pointer (some y) := by
      obtain ⟨b, o, sp⟩ := x
      cases sp with
      | none => obtain ⟨p, _, rfl⟩ := ha.inv_ptr; exact ⟨_, rfl⟩
      | some i => exact (ha.inv_ptr_spot).elim
    obtain ⟨y, rfl⟩ := ha'
    refine ⟨?_, by simp, by simp, rfl, rfl⟩
    · rw [Op.equal, Op.maxDepth, Op.equalIn]; simp only [Sem.run_bind, run_underlying hu, Result.andThen_ok]; rfl
  · rename_i e n k x m l hu
    simp only [Option.some.injEq] at h; subst h
    obtain ⟨rfl, rfl, rfl⟩ := ha.inv_slice_nil
    have hb' : ∃ (y : Option Addr) (m' l' : Nat), b' = .slice y m' l' ∧ y.isNone = x.isNone := by
      cases x with
      | none => obtain ⟨rfl, rfl, rfl⟩ := hb.inv_slice_nil; exact ⟨none, _, _, rfl, rfl⟩
      | some a =>
        obtain ⟨b, o, sp⟩ := a
        cases sp with
        | none =>
          rcases hb.inv_slice with ⟨p, k', _, rfl, _⟩ | ⟨rfl, _, a', _, rfl⟩
          · exact ⟨_, _, _, rfl, rfl⟩
          · exact ⟨_, _, _, rfl, rfl⟩
        | some i => exact (hb.inv_slice_spot).elim
    obtain ⟨y, m', l', rfl, hy⟩ := hb'
    refine ⟨?_, by simp, by simp, rfl, rfl⟩
    · rw [← hy]; rw [Op.equal, Op.maxDepth, Op.equalIn]; simp only [Sem.run_bind, run_underlying hu, Result.andThen_ok]; rfl
  · rename_i e x n k m l hu
    simp only [Option.some.injEq] at h; subst h
    obtain ⟨rfl, rfl, rfl⟩ := hb.inv_slice_nil
    have ha' : ∃ (y : Addr) (m' l' : Nat), a' = .slice (some y) m' l' := by
      obtain ⟨b, o, sp⟩ := x
      cases sp with
      | none =>
        rcases ha.inv_slice with ⟨p, k', _, rfl, _⟩ | ⟨rfl, _, a', _, rfl⟩
        · exact ⟨_, _, _, rfl⟩
        · exact ⟨_, _, _, rfl⟩
      | some i => exact (ha.inv_slice_spot).elim
    obtain ⟨y, m', l', rfl⟩ := ha'
    refine ⟨?_, by simp, by simp, rfl, rfl⟩
    · rw [Op.equal, Op.maxDepth, Op.equalIn]; simp only [Sem.run_bind, run_underlying hu, Result.andThen_ok]; rfl
  · rename_i k e x hu
    simp only [Option.some.injEq] at h; subst h
    have h1 := ha.eq_of_plain (v := .map none) rfl
    subst h1
    have hb' : ∃ y : Option Nat, b' = .map y ∧ y.isNone = x.isNone := by
      cases x with
      | none => exact ⟨none, hb.eq_of_plain rfl, rfl⟩
      | some a => obtain ⟨p, _, rfl⟩ := hb.inv_map; exact ⟨_, rfl, rfl⟩
    obtain ⟨y, rfl, hy⟩ := hb'
    refine ⟨?_, by simp, by simp, rfl, rfl⟩
    · rw [← hy]; rw [Op.equal, Op.maxDepth, Op.equalIn]; simp only [Sem.run_bind, run_underlying hu, Result.andThen_ok]; rfl
  · rename_i k e x hu
    simp only [Option.some.injEq] at h; subst h
    have h1 := hb.eq_of_plain (v := .map none) rfl
    subst h1
    obtain ⟨p, _, rfl⟩ := ha.inv_map
    refine ⟨?_, by simp, by simp, rfl, rfl⟩
    · rw [Op.equal, Op.maxDepth, Op.equalIn]; simp only [Sem.run_bind, run_underlying hu, Result.andThen_ok]; rfl
  · cases h

theorem binA_run {op : BinOp} {t : TypeId} {x y : Operand} {a b a' b' v : Value} (h : binA P op t x y a b = some v) (ha : VR μ a a') (hb : VR μ b b') (w : World) :
    ∃ v', (do eqGuard op t x y a' b'; binOp op t a' b' : Sem Value).run P w = .ok v' w ∧ VR μ v v' := by
  unfold binA at h
  split at h
  · rename_i s u
    have h1 := ha.inv_string
    have h2 := hb.inv_string
    subst h1; subst h2
    obtain ⟨hr, hp⟩ := strOp_run (P := P) h w
    refine ⟨v, ?_, .refl_plain hp⟩
    rw [eqGuard_none _ _ _ _ _ _ (by simp) (by simp)]
    have hb : binOp op t (.string s) (.string u) = Op.stringOp op s u := by cases op <;> rfl
    simp only [Sem.run_bind, Sem.run_pure, Result.andThen_ok, hb, hr]
  · split at h
    · rename_i hp
      simp only [Bool.and_eq_true] at hp
      have h1 := ha.eq_of_plain hp.1
      have h2 := hb.eq_of_plain hp.2
      subst h1; subst h2
      obtain ⟨hr, hv⟩ := evalPlain (μ := μ) h w
      exact ⟨v, hr, hv⟩
    · split at h
      · cases hr : eqA P t a b with
        | none => simp [hr] at h
        | some r =>
          simp [hr] at h; subst h
          obtain ⟨h1, h2, h3, h4, h5⟩ := eqA_run hr ha hb w
          refine ⟨.bool r, ?_, .plain1 rfl⟩
          rw [eqGuard_none _ _ _ _ _ _ h2 h3, h4]
          simp [h1]
      · cases hr : eqA P t a b with
        | none => simp [hr] at h
        | some r =>
          simp [hr] at h; subst h
          obtain ⟨h1, h2, h3, h4, h5⟩ := eqA_run hr ha hb w
          refine ⟨.bool !r, ?_, .plain1 rfl⟩
          rw [eqGuard_none _ _ _ _ _ _ h2 h3, h5]
          simp [h1]
      · cases h

theorem partA_run {t : TypeId} {cs : List Value} {cs' : Array Value} {off : Nat} {v : Value} (h : partA P t cs off = some v) (hr : All2 (VR1 μ) cs cs'.toList) (w : World) :
    ∃ v', (part t cs' off).run P w = .ok v' w ∧ VR μ v v' := by
  unfold partA at h
  split at h
  · rename_i d n hu hn
    unfold part
    simp only [Sem.run_bind, isAgg_run hu, Result.andThen_ok]
    cases hd : isAggD d with
    | true =>
      simp only [hd, if_true] at h ⊢
      split at h
      · rename_i hl
        simp only [Option.some.injEq] at h; subst h
        simp only [Sem.run_bind, szA_run hn, Result.andThen_ok, Sem.run_pure]
        refine ⟨_, rfl, .agg ?_⟩
        have := (hr.drop off).take n
        simpa [Array.toList_extract, List.extract_eq_take_drop] using this
      · cases h
    | false =>
      simp only [hd, Bool.false_eq_true, if_false] at h ⊢
      obtain ⟨v', hv', r⟩ := hr.2 off v h
      rw [Array.getElem?_toList] at hv'
      rw [hv']
      exact ⟨v', rfl, .one r⟩
  · cases h

theorem fieldA_run {t : TypeId} {x x' v : Value} {f : Nat} (h : fieldA P t x f = some v) (hx : VR μ x x') (w : World) :
    ∃ v', (Instr.field t x' f).run P w = .ok v' w ∧ VR μ v v' := by
  unfold fieldA at h
  split at h
  · rename_i fs cs hu
    split at h
    · rename_i fd hf
      obtain ⟨ys, rfl, hys⟩ := hx.inv_agg
      obtain ⟨v', hr, hv⟩ := partA_run h hys w
      exact ⟨v', by simp [Instr.field, run_underlying hu, hf, asAgg, hr], hv⟩
    · cases h
  · cases h

theorem indexA_run {t : TypeId} {x x' i i' v : Value} (h : indexA P t x i = some v) (hx : VR μ x x') (hi : VR μ i i') (w : World) :
    ∃ v', (Instr.index t x' i').run P w = .ok v' w ∧ VR μ v v' := by
  unfold indexA at h
  split at h
  · rename_i k n
    have := hi.inv_int; subst this
    split at h
    · rename_i len elem cs hu
      split at h
      · rename_i sz hsz
        split at h
        · rename_i hb
          obtain ⟨ys, rfl, hys⟩ := hx.inv_agg
          obtain ⟨v', hr, hv⟩ := partA_run h hys w
          exact ⟨v', by simp [Instr.index, asIntOf, run_underlying hu, hb, szA_run hsz, hr], hv⟩
        · cases h
      · cases h
    · rename_i s hu
      have := hx.inv_string; subst this
      split at h
      · rename_i h0
        cases hb : s.data.toList[n.toNat]? with
        | none => rw [hb] at h; cases h
        | some b =>
          rw [hb] at h; simp at h; subst h
          refine ⟨_, ?_, .plain1 rfl⟩
          have hs : s[n.toNat]? = some b := by
            rw [Array.getElem?_toList] at hb
            have hlt : n.toNat < s.size := by
              have := (Array.getElem?_eq_some_iff.1 hb).1
              exact this
            have hg := (Array.getElem?_eq_some_iff.1 hb).2
            rw [getElem?_pos s n.toNat hlt]
            congr 1
          simp [Instr.index, asIntOf, run_underlying hu, h0, hs]
      · cases h
    · cases h
  · cases h

theorem fieldAddrA_run {t : TypeId} {x x' v : Value} {f : Nat} (h : fieldAddrA P t x f = some v) (hx : VR μ x x') (w : World) :
    ∃ v', (Instr.fieldAt t x' f).run P w = .ok v' w ∧ VR μ v v' := by
  unfold fieldAddrA at h
  split at h
  · rename_i fs b o hu
    split at h
    · rename_i fd hf
      split at h
      · rename_i n hsz
        simp only [Option.some.injEq] at h; subst h
        obtain ⟨p, hp, rfl⟩ := hx.inv_ptr
        refine ⟨.pointer (some ⟨p.c, o + fd.offset + p.s, none⟩), ?_, .zero (.ptr hp)⟩
        have hadd : (⟨p.c, o + p.s, none⟩ : Addr).add fd.offset = ⟨p.c, o + fd.offset + p.s, none⟩ := by
          unfold Addr.add; split
          · simp_all
          · simp; omega
        simp [Instr.fieldAt, run_underlying hu, hf, Instr.sureAddr, fieldPlace, szA_run hsz, hadd]
      · cases h
    · cases h
  · cases h

theorem indexAddrA_run {t : TypeId} {x x' i i' v : Value} (h : indexAddrA P t x i = some v) (hx : VR μ x x') (hi : VR μ i i') (w : World) :
    ∃ v', (Instr.indexAt t x' i').run P w = .ok v' w ∧ VR μ v v' := by
  unfold indexAddrA at h
  split at h
  · rename_i k n
    have := hi.inv_int; subst this
    split at h
    · rename_i len elem b o hu
      split at h
      · rename_i sz hsz
        split at h
        · rename_i hb
          simp only [Option.some.injEq] at h; subst h
          obtain ⟨p, hp, rfl⟩ := hx.inv_ptr
          refine ⟨.pointer (some ⟨p.c, o + n.toNat * sz + p.s, none⟩), ?_, .zero (.ptr hp)⟩
          have hadd : (⟨p.c, o + p.s, none⟩ : Addr).add (n.toNat * sz) = ⟨p.c, o + n.toNat * sz + p.s, none⟩ := by
            unfold Addr.add; split
            · simp_all
            · simp; omega
          simp [Instr.indexAt, asIntOf, run_underlying hu, Instr.sureAddr, hb, szA_run hsz, hadd]
        · cases h
      · cases h
    · rename_i elem b o len cap hu
      split at h
      · rename_i sz hsz
        split at h
        · rename_i hb
          simp only [Option.some.injEq] at h; subst h
          rcases hx.inv_slice with ⟨p, k', hp, rfl, _⟩ | ⟨rfl, _⟩
          · refine ⟨.pointer (some ⟨p.c, o + n.toNat * sz + p.s, none⟩), ?_, .zero (.ptr hp)⟩
            have hadd : (⟨p.c, o + p.s, none⟩ : Addr).add (n.toNat * sz) = ⟨p.c, o + n.toNat * sz + p.s, none⟩ := by
              unfold Addr.add; split
              · simp_all
              · simp; omega
            simp [Instr.indexAt, asIntOf, run_underlying hu, hb, szA_run hsz, hadd]
          · omega
        · cases h
      · cases h
    · cases h
  · cases h

theorem boundA_some {x x' : Option Value} {d m r : Nat} (h : boundA x d m = some r) (hx : ∀ v, x = some v → ∃ v', x' = some v' ∧ VR μ v v') (hn : x = none → x' = none) :
    (x' = none ∧ r = d) ∨ ∃ k n, x' = some (.int k n) ∧ 0 ≤ n ∧ n ≤ m ∧ r = n.toNat := by
  unfold boundA at h
  split at h
  · simp at h; exact .inl ⟨hn rfl, h.symm⟩
  · rename_i k n
    split at h
    · rename_i hb
      simp at h
      obtain ⟨v', hv', r'⟩ := hx _ rfl
      have := r'.inv_int; subst this
      exact .inr ⟨k, n, hv', hb.1, hb.2, h.symm⟩
    · cases h
  · cases h

/-- The operands of a slice expression: each stands for its like. -/
def OptR (μ : Mu) (x x' : Option Value) : Prop := (∀ v, x = some v → ∃ v', x' = some v' ∧ VR μ v v') ∧ (x = none → x' = none)

theorem optR_map {ρ ρ' : Operand → Value} {x : Option Operand} (h : ∀ y, x = some y → VR μ (ρ y) (ρ' y)) : OptR μ (x.map ρ) (x.map ρ') := by
  cases x with
  | none => exact ⟨fun v h => (by cases h), fun _ => rfl⟩
  | some y => exact ⟨fun v e => (by simp at e; subst e; exact ⟨_, rfl, h y rfl⟩), fun e => (by cases e)⟩

theorem run_bound_of {x x' : Option Value} {d m r : Nat} (h : boundA x d m = some r) (hx : OptR μ x x') (code : BoundsCode) (m' : Nat) (hm : m ≤ m') (w : World) :
    (∀ v, x' = some v → (Instr.sliceBound v m' code).run P w = .ok r w) ∧ (x' = none → r = d) := by
  rcases boundA_some h hx.1 hx.2 with ⟨rfl, rfl⟩ | ⟨k, n, rfl, h0, h1, rfl⟩
  · exact ⟨fun v h => (by cases h), fun _ => rfl⟩
  · refine ⟨fun v e => ?_, fun e => (by cases e)⟩
    simp at e; subst e
    exact run_sliceBound w k n m' code h0 (by omega)

theorem sliceBounds_run {b : Bool} {len cap : Nat} {lo hi mx lo' hi' mx' : Option Value} {l h m : Nat} {known : Nat} (hk : known ≤ cap)
    (hmx : OptR μ mx mx') (hhi : OptR μ hi hi') (hlo : OptR μ lo lo')
    (e : (mx = none ∧ boundA hi len known = some h ∧ m = cap) ∨ (∃ x y, mx = some x ∧ hi = some y ∧ boundA mx 0 known = some m ∧ boundA hi 0 m = some h))
    (el : boundA lo 0 h = some l) (w : World) : (Instr.sliceBounds b len cap lo' hi' mx').run P w = .ok (l, h, m) w := by
  have low : ∀ code v, lo' = some v → (Instr.sliceBound v h code).run P w = .ok l w := fun code v e => (run_bound_of (P := P) el hlo code h (Nat.le_refl _) w).1 v e
  have low0 : lo' = none → l = 0 := (run_bound_of (P := P) el hlo .sliceB h (Nat.le_refl _) w).2
  rcases e with ⟨rfl, eh, rfl⟩ | ⟨x, y, rfl, rfl, em, eh⟩
  · have hn := hmx.2 rfl
    subst hn
    have hh : ∀ code v, hi' = some v → (Instr.sliceBound v m code).run P w = .ok h w := fun code v e => (run_bound_of (P := P) eh hhi code m hk w).1 v e
    have hh0 : hi' = none → h = len := (run_bound_of (P := P) eh hhi .sliceB known (Nat.le_refl _) w).2
    cases hi' with
    | none =>
      have := hh0 rfl
      subst this
      cases lo' with
      | none => have := low0 rfl; subst this; simp [Instr.sliceBounds]
      | some u => simp [Instr.sliceBounds, low _ u rfl]
    | some v =>
      cases lo' with
      | none => have := low0 rfl; subst this; simp [Instr.sliceBounds, hh _ v rfl]
      | some u => simp [Instr.sliceBounds, low _ u rfl, hh _ v rfl]
  · obtain ⟨x', rfl, _⟩ := hmx.1 x rfl
    obtain ⟨y', rfl, _⟩ := hhi.1 y rfl
    have h1 : ∀ code, (Instr.sliceBound x' cap code).run P w = .ok m w := fun code => (run_bound_of (P := P) em hmx code cap hk w).1 x' rfl
    have h2 : ∀ code, (Instr.sliceBound y' m code).run P w = .ok h w := fun code => (run_bound_of (P := P) eh hhi code m (Nat.le_refl _) w).1 y' rfl
    cases lo' with
    | none => have := low0 rfl; subst this; simp [Instr.sliceBounds, h1, h2]
    | some u => simp [Instr.sliceBounds, h1, h2, low _ u rfl]

end
end Go.Abs
end
section
namespace Go.Abs
open Go

section
variable {P : Program} {μ : Mu}

theorem isUnk_iff {k : Nat} : isUnk k = true ↔ UNK0 ≤ k := by unfold isUnk UNK0; simp
theorem isUnk_false {k : Nat} : isUnk k = false ↔ k < UNK0 := by unfold isUnk UNK0; simp
theorem unk_sub (e : Nat) : unk e - UNK0 = e := by unfold unk UNK0; omega
theorem UNK0_le_unk (e : Nat) : UNK0 ≤ unk e := by unfold unk UNK0; omega

theorem add_rel (c o s n : Nat) : (⟨c, o + s, none⟩ : Addr).add n = ⟨c, o + n + s, none⟩ := by
  unfold Addr.add; split
  · simp_all
  · simp; omega

/-- A slice of a row: of a slice that stands for one, or of an array. -/
theorem sliceRow_run {b o sz len cap : Nat} {lo hi mx lo' hi' mx' : Option Value} {v : Value} (h : sliceRow b o sz len cap lo hi mx = some v)
    (hmx : OptR μ mx mx') (hhi : OptR μ hi hi') (hlo : OptR μ lo lo') {p : Pl} (hp : μ b = some p) (k' : Nat) (hlen : len ≤ k')
    (hcap : (UNK0 ≤ cap ∧ o + p.s + k' * (cap - UNK0) ≤ p.N) ∨ (cap = k' ∧ cap < UNK0)) (is : Bool) (w : World) :
    ∃ l h m, (Instr.sliceBounds is len k' lo' hi' mx').run P w = .ok (l, h, m) w ∧
      VR μ v (.slice (some (if m = l then (⟨p.c, o + p.s, none⟩ : Addr) else (⟨p.c, o + p.s, none⟩ : Addr).add (l * sz))) (h - l) (m - l)) := by
  unfold sliceRow at h
  simp only at h
  have hk : (if isUnk cap then len else cap) ≤ k' := by
    rcases hcap with ⟨h1, _⟩ | ⟨h1, h2⟩
    · rw [isUnk_iff.2 h1]; exact hlen
    · rw [isUnk_false.2 h2]; simp [h1]
  split at h
  · rename_i m0
    split at h
    · cases h
    · rename_i y
      split at h
      · cases h
      · rename_i m hm
        split at h
        · cases h
        · rename_i hh hhh
          split at h
          · cases h
          · rename_i l hl
            split at h
            · rename_i hmb
              simp only [Option.some.injEq] at h; subst h
              refine ⟨l, hh, m, sliceBounds_run hk hmx hhi hlo (.inr ⟨m0, y, rfl, rfl, hm, hhh⟩) hl w, ?_⟩
              have hle : hh ≤ m := by
                rcases boundA_some (μ := μ) (x' := hi') hhh hhi.1 hhi.2 with ⟨rfl, rfl⟩ | ⟨k, n, _, h0, h1, rfl⟩
                · omega
                · omega
              by_cases e : m = l
              · rw [if_pos e, if_pos e]
                exact .zero (.slice hp (by omega) (.inr ⟨rfl, by omega⟩))
              · rw [if_neg e, if_neg e, add_rel]
                exact .zero (.slice hp (by omega) (.inr ⟨rfl, by omega⟩))
            · cases h
  · split at h
    · cases h
    · rename_i hh hhh
      split at h
      · cases h
      · rename_i l hl
        have hl' : l ≤ hh := by
          rcases boundA_some (μ := μ) (x' := lo') hl hlo.1 hlo.2 with ⟨_, rfl⟩ | ⟨k, n, _, h0, h1, rfl⟩ <;> omega
        have hh' : hh ≤ len ∨ hh ≤ (if isUnk cap then len else cap) := by
          rcases boundA_some (μ := μ) (x' := hi') hhh hhi.1 hhi.2 with ⟨_, rfl⟩ | ⟨k, n, _, h0, h1, rfl⟩
          · left; omega
          · right; omega
        have hhk : hh ≤ k' := by omega
        refine ⟨l, hh, k', sliceBounds_run hk hmx hhi hlo (.inl ⟨rfl, hhh, rfl⟩) hl w, ?_⟩
        split at h
        · rename_i hu
          have hu' := isUnk_iff.1 hu
          split at h
          · rename_i hc
            simp only [Option.some.injEq] at h; subst h
            rcases hcap with ⟨h1, h2⟩ | ⟨h1, h2⟩
            · by_cases e : k' = l
              · have h3 : hh - l = 0 := by omega
                have h4 : k' - l = 0 := by omega
                rw [h3, h4]
                exact .zero (.slice0 hp (.inl hu'))
              · rw [if_neg e, add_rel]
                refine .zero (.slice hp (by omega) (.inl ⟨hu', ?_⟩))
                rw [hc, unk_sub] at h2 ⊢
                have : k' * sz = l * sz + (k' - l) * sz := by rw [← Nat.add_mul]; congr 1; omega
                omega
            · omega
          · cases h
        · rename_i hu
          have hu' := isUnk_false.1 (by simpa using hu)
          rcases hcap with ⟨h1, h2⟩ | ⟨h1, h2⟩
          · omega
          · subst h1
            simp only [Option.some.injEq] at h; subst h
            by_cases e : cap = l
            · rw [if_pos e, if_pos e]
              exact .zero (.slice hp (by omega) (.inr ⟨rfl, by omega⟩))
            · rw [if_neg e, if_neg e, add_rel]
              exact .zero (.slice hp (by omega) (.inr ⟨rfl, by omega⟩))

theorem sliceRow_zero {b o sz cap : Nat} {lo hi mx lo' hi' mx' : Option Value} {v : Value} (h : sliceRow b o sz 0 cap lo hi mx = some v)
    (hc : UNK0 ≤ cap ∨ cap = 0) {p0 : Pl} (hp0 : μ b = some p0) (hmx : OptR μ mx mx') (hhi : OptR μ hi hi') (hlo : OptR μ lo lo') (a' : Addr) (is : Bool) (w : World) :
    (Instr.sliceBounds is 0 0 lo' hi' mx').run P w = .ok (0, 0, 0) w ∧ VR μ v (.slice (some a') 0 0) := by
  have hk : (if isUnk cap then 0 else cap) = 0 := by
    rcases hc with h | h
    · rw [isUnk_iff.2 h]; rfl
    · subst h; split <;> rfl
  unfold sliceRow at h
  simp only [hk] at h
  split at h
  · rename_i m0
    split at h
    · cases h
    · rename_i y
      split at h
      · cases h
      · rename_i m hm
        have hm0 : m = 0 := by
          rcases boundA_some (μ := μ) (x' := mx') hm hmx.1 hmx.2 with ⟨_, rfl⟩ | ⟨k, n, _, h0, h1, rfl⟩ <;> omega
        subst hm0
        split at h
        · cases h
        · rename_i hh hhh
          have hh0 : hh = 0 := by
            rcases boundA_some (μ := μ) (x' := hi') hhh hhi.1 hhi.2 with ⟨_, rfl⟩ | ⟨k, n, _, h0, h1, rfl⟩ <;> omega
          subst hh0
          split at h
          · cases h
          · rename_i l hl
            have hl0 : l = 0 := by
              rcases boundA_some (μ := μ) (x' := lo') hl hlo.1 hlo.2 with ⟨_, rfl⟩ | ⟨k, n, _, h0, h1, rfl⟩ <;> omega
            subst hl0
            split at h
            · simp at h; subst h
              exact ⟨sliceBounds_run (Nat.le_refl 0) hmx hhi hlo (.inr ⟨m0, y, rfl, rfl, hm, hhh⟩) hl w, .zero (.slice0 hp0 (.inr rfl))⟩
            · cases h
  · split at h
    · cases h
    · rename_i hh hhh
      have hh0 : hh = 0 := by
        rcases boundA_some (μ := μ) (x' := hi') hhh hhi.1 hhi.2 with ⟨_, rfl⟩ | ⟨k, n, _, h0, h1, rfl⟩ <;> omega
      subst hh0
      split at h
      · cases h
      · rename_i l hl
        have hl0 : l = 0 := by
          rcases boundA_some (μ := μ) (x' := lo') hl hlo.1 hlo.2 with ⟨_, rfl⟩ | ⟨k, n, _, h0, h1, rfl⟩ <;> omega
        subst hl0
        refine ⟨sliceBounds_run (Nat.le_refl 0) hmx hhi hlo (.inl ⟨rfl, hhh, rfl⟩) hl w, ?_⟩
        split at h
        · rename_i hu
          split at h
          · simp at h; subst h; exact .zero (.slice0 hp0 (.inl (isUnk_iff.1 hu)))
          · cases h
        · rename_i hu
          have := isUnk_false.1 (by simpa using hu)
          have hc0 : cap = 0 := by omega
          subst hc0
          simp at h; subst h
          exact .zero (.slice0 hp0 (.inr rfl))

theorem sliceA_run {t : TypeId} {x x' v : Value} {lo hi mx lo' hi' mx' : Option Value} (h : sliceA P t x lo hi mx = some v) (hx : VR μ x x')
    (hlo : OptR μ lo lo') (hhi : OptR μ hi hi') (hmx : OptR μ mx mx') (w : World) :
    ∃ v', (Instr.sliceAt t x' lo' hi' mx').run P w = .ok v' w ∧ VR μ v v' := by
  unfold sliceA at h
  split at h
  · rename_i n elem b o hu
    split at h
    · rename_i sz hsz
      split at h
      · cases h
      · rename_i hn
        have hn' := isUnk_false.1 (by simpa using hn)
        obtain ⟨p, hp, rfl⟩ := hx.inv_ptr
        obtain ⟨l, hh, m, hr, hv⟩ := sliceRow_run (P := P) h hmx hhi hlo hp n (Nat.le_refl n) (.inr ⟨rfl, hn'⟩) false w
        refine ⟨_, ?_, hv⟩
        simp [Instr.sliceAt, run_underlying hu, Instr.sureAddr, hr, szA_run hsz]
    · cases h
  · rename_i s hu
    have := hx.inv_string; subst this
    split at h
    · cases h
    · split at h
      · cases h
      · rename_i hh hhh
        split at h
        · cases h
        · rename_i l hl
          simp only [Option.some.injEq] at h; subst h
          refine ⟨_, ?_, .plain1 rfl⟩
          have hn := hmx.2 rfl
          subst hn
          have hs : s.data.toList.length = s.size := rfl
          rw [hs] at hhh
          have hb := sliceBounds_run (P := P) (μ := μ) (b := false) (len := s.size) (cap := s.size) (known := s.size) (m := s.size) (Nat.le_refl _) hmx hhi hlo (.inl ⟨rfl, hhh, rfl⟩) hl w
          have hx : s.extract l hh = ⟨((s.data.toList.drop l).take (hh - l)).toArray⟩ := by
            apply ByteArray.ext
            rw [ByteArray.data_extract, ← Array.toList_inj, Array.toList_extract, List.extract_eq_take_drop]
          simp [Instr.sliceAt, Instr.slice, run_underlying hu, hb, hx]
  · rename_i elem b o len cap hu
    split at h
    · rename_i sz hsz
      rcases hx.inv_slice with ⟨p, k', hp, rfl, hlen, hcap⟩ | ⟨rfl, hc, a', ⟨p0, hp0⟩, rfl⟩
      · obtain ⟨l, hh, m, hr, hv⟩ := sliceRow_run (P := P) h hmx hhi hlo hp k' hlen hcap true w
        refine ⟨_, ?_, hv⟩
        simp only [Instr.sliceAt, Instr.slice, Sem.run_bind, run_underlying hu, Result.andThen_ok, hr, szA_run hsz, Sem.run_pure]
        split <;> rfl
      · obtain ⟨hr, hv⟩ := sliceRow_zero (P := P) h hc hp0 hmx hhi hlo a' true w
        refine ⟨_, ?_, hv⟩
        simp only [Instr.sliceAt, Instr.slice, Sem.run_bind, run_underlying hu, Result.andThen_ok, hr, szA_run hsz, Sem.run_pure]
        rfl
    · cases h
  · rename_i elem hu
    have := hx.eq_of_plain (v := .slice none 0 0) rfl; subst this
    split at h
    · rename_i sz hsz
      split at h
      · cases h
      · rename_i hh hhh
        split at h
        · cases h
        · rename_i l hl
          simp only [Option.some.injEq] at h; subst h
          have hn := hmx.2 rfl
          subst hn
          have hh0 : hh = 0 := by
            rcases boundA_some (μ := μ) (x' := hi') hhh hhi.1 hhi.2 with ⟨_, rfl⟩ | ⟨k, n, _, h0, h1, rfl⟩ <;> omega
          subst hh0
          have hl0 : l = 0 := by
            rcases boundA_some (μ := μ) (x' := lo') hl hlo.1 hlo.2 with ⟨_, rfl⟩ | ⟨k, n, _, h0, h1, rfl⟩ <;> omega
          subst hl0
          have hb := sliceBounds_run (P := P) (μ := μ) (b := true) (len := 0) (cap := 0) (known := 0) (m := 0) (Nat.le_refl _) hmx hhi hlo (.inl ⟨rfl, hhh, rfl⟩) hl w
          refine ⟨.slice none 0 0, ?_, .plain1 rfl⟩
          simp only [Instr.sliceAt, Instr.slice, Sem.run_bind, run_underlying hu, Result.andThen_ok, hb, szA_run hsz, Sem.run_pure]
          rfl
    · cases h
  · cases h

theorem all2_splice {R : Value → Value → Prop} : ∀ {vs us l m : List Value} (o : Nat), All2 R l m → All2 R vs us → All2 R (spliceL l o vs) (spliceL m o us)
  | [], us, l, m, o, h, hv => by
    have := hv.inv_nil; subst this; exact h
  | v :: vs, us, l, m, o, h, hv => by
    obtain ⟨u, us', rfl, r, hr⟩ := hv.inv_cons
    exact all2_splice (o + 1) (h.set o r) hr
theorem length_splice : ∀ (vs l : List Value) (o : Nat), (spliceL l o vs).length = l.length
  | [], _, _ => rfl
  | v :: vs, l, o => by unfold spliceL; rw [length_splice]; simp

theorem foldl_splice (off : Nat) : ∀ (vs : List Value) (k : Nat) (cells : Array Value),
    ((vs.zipIdx k).foldl (fun (cs : Array Value) (x : Value × Nat) => cs.setIfInBounds (off + x.2) x.1) cells).toList = spliceL cells.toList (off + k) vs
  | [], k, cells => rfl
  | v :: vs, k, cells => by
    simp only [List.zipIdx_cons, List.foldl_cons]
    rw [foldl_splice off vs (k + 1)]
    simp only [Array.toList_setIfInBounds, spliceL]
    rfl

theorem fill_run (place : Nat → Option (Nat × Nat)) : ∀ (parts parts' : List (Nat × Value)) (cells : List Value) (cells' : Array Value) (cs : List Value),
    fillA place cells parts = some cs → All2 (VR1 μ) cells cells'.toList →
    All2 (fun x y => x.1 = y.1 ∧ VR μ x.2 y.2) parts parts' → (∀ x ∈ parts, x.2.cells.toList.all Value.oneCell' = true) →
    ∃ cs', Instr.fill place cells' parts' = some cs' ∧ All2 (VR1 μ) cs cs'.toList
  | [], parts', cells, cells', cs, h, hc, hp, _ => by
    have := hp.inv_nil; subst this
    simp only [fillA, Option.some.injEq] at h; subst h
    exact ⟨cells', rfl, hc⟩
  | (i, v) :: rest, parts', cells, cells', cs, h, hc, hp, hone => by
    obtain ⟨⟨i', v'⟩, rest', rfl, ⟨hi, hv⟩, hr⟩ := hp.inv_cons
    simp only at hi hv; subst hi
    unfold fillA at h
    unfold Instr.fill
    have hvc := hv.cells (hone (i, v) (by simp))
    cases hpl : place i with
    | none => simp [hpl] at h
    | some q =>
      obtain ⟨off, size⟩ := q
      simp only [hpl] at h ⊢
      split at h
      · rename_i hs
        have h1 : v'.cells.size = size := by rw [← hs.1, ← Array.length_toList, ← Array.length_toList, hvc.1]
        have h2 : cells'.size = cells.length := by rw [← Array.length_toList, hc.1]
        have hcond : (decide (v'.cells.size ≠ size) || decide (off + v'.cells.size > cells'.size)) = false := by
          rw [h1, h2]; simp; exact hs.2
        rw [if_neg (by rw [hcond]; simp)]
        refine fill_run place rest rest' _ _ cs h ?_ hr (fun x hx => hone x (by simp [hx]))
        have hf := foldl_splice off v'.cells.toList 0 cells'
        rw [Nat.add_zero] at hf
        rw [← Array.foldl_toList, Array.toList_zipIdx]
        rw [hf]
        exact all2_splice off hc hvc
      · cases h

theorem places_run : ∀ (fs : List Field) (pl : List (Nat × Nat)), placesA P fs = some pl → ∀ w : World,
    (fs.mapM (m := Sem) fun f => do pure (f.offset, ← sizeOf f.type)).run P w = .ok pl w
  | [], pl, h, w => by simp only [placesA, Option.some.injEq] at h; subst h; rfl
  | f :: r, pl, h, w => by
    unfold placesA at h
    split at h
    · rename_i n l hn hl
      simp only [Option.some.injEq] at h; subst h
      rw [List.mapM_cons]
      simp only [Sem.run_bind, szA_run hn, Result.andThen_ok, Sem.run_pure, places_run r l hl w]
    · cases h

theorem zero_cells {z : Value} (h : plainA z = true) : All2 (VR1 μ) z.cells.toList z.cells.toList := (VRa.refl_plain (plainA_spec h).1 (plainA_spec h).2).cells

end
end Go.Abs
end
section
namespace Go.Abs
open Go

section
variable {P : Program} {μ : Mu}

/-- The parts of something that is built. -/
theorem parts_rel {ρ ρ' : Operand → Value} {parts : Array (Nat × Operand)} (h : ∀ x ∈ (parts.toList.map (·.2)), VR μ (ρ x) (ρ' x)) :
    All2 (fun x y : Nat × Value => x.1 = y.1 ∧ VR μ x.2 y.2) (parts.toList.map fun (i, x) => (i, ρ x)) (parts.map fun (i, x) => (i, ρ' x)).toList := by
  rw [Array.toList_map]
  refine ⟨by simp, fun i a ha => ?_⟩
  rw [List.getElem?_map] at ha ⊢
  cases e : parts.toList[i]? with
  | none => rw [e] at ha; cases ha
  | some q =>
    obtain ⟨j, x⟩ := q
    rw [e] at ha; simp at ha; subst ha
    exact ⟨(j, ρ' x), rfl, rfl, h x (List.mem_map.2 ⟨(j, x), List.mem_of_getElem? e, rfl⟩)⟩

/-- A value put into a part has cells of one cell each, if it is no tuple. -/
theorem VR.partOk {v v' : Value} (h : VR μ v v') (ht : ∀ vs, v ≠ .tuple vs) : v.cells.toList.all Value.oneCell' = true := by
  cases h with
  | a e =>
    have := e.cells
    rw [List.all_eq_true]
    intro x hx
    obtain ⟨i, hi⟩ := List.mem_iff_getElem?.1 hx
    obtain ⟨y, _, r⟩ := this.2 i x hi
    exact r.oneCell.1
  | tup e => exact absurd rfl (ht _)
  | dead => exact absurd rfl (ht _)

theorem noTuple_spec {v : Value} (h : noTuple v = true) : ∀ vs, v ≠ .tuple vs := by
  intro vs e; subst e; simp [noTuple] at h

theorem all2_arr {l : List Value} {a : Array Value} (h : All2 (VR1 μ) l a.toList) : All2 (VR1 μ) l.toArray.toList a.toList := by simpa using h

theorem buildA_run {t : TypeId} {parts : List (Nat × Value)} {parts' : Array (Nat × Value)} {v : Value} (h : buildA P t parts = some v)
    (hp : All2 (fun x y : Nat × Value => x.1 = y.1 ∧ VR μ x.2 y.2) parts parts'.toList) (hone : ∀ x ∈ parts, x.2.cells.toList.all Value.oneCell' = true) (w : World) :
    ∃ v', (Instr.build t parts').run P w = .ok v' w ∧ VR μ v v' := by
  unfold buildA at h
  split at h
  · rename_i z fs hz hu
    obtain ⟨hzr, hzp⟩ := zeroA_run hz w
    cases hpl : placesA P fs.toList with
    | none => simp [hpl] at h
    | some pl =>
      simp only [hpl] at h
      cases hf : fillA (pl[·]?) z.cells.toList parts with
      | none => simp [hf] at h
      | some cs =>
        simp only [hf, Option.map_some, Option.some.injEq] at h; subst h
        obtain ⟨cs', hc1, hc2⟩ := fill_run (fun i => pl[i]?) parts parts'.toList z.cells.toList z.cells cs hf (zero_cells hzp) hp hone
        refine ⟨.agg cs', ?_, .agg (all2_arr hc2)⟩
        have hpr := places_run (P := P) fs.toList pl hpl w
        have hpr' : (fs.mapM (m := Sem) fun f => do pure (f.offset, ← sizeOf f.type)).run P w = .ok pl.toArray w := by
          rw [← Array.toArray_toList (xs := fs), List.mapM_toArray]
          simp only [Sem.run_map, hpr, Result.andThen_ok]
        simp only [Instr.build, Sem.run_bind, hzr, run_underlying hu, Result.andThen_ok, hpr']
        have hc1' : Instr.fill (fun x => pl.toArray[x]?) z.cells parts'.toList = some cs' := by
          simpa using hc1
        rw [hc1']
        rfl
  · rename_i z n elem hz hu
    obtain ⟨hzr, hzp⟩ := zeroA_run hz w
    cases hsz : szA P elem with
    | none => simp [hsz] at h
    | some k =>
      simp only [hsz] at h
      cases hf : fillA (fun i => some (i * k, k)) z.cells.toList parts with
      | none => simp [hf] at h
      | some cs =>
        simp only [hf, Option.map_some, Option.some.injEq] at h; subst h
        obtain ⟨cs', hc1, hc2⟩ := fill_run (fun i => some (i * k, k)) parts parts'.toList z.cells.toList z.cells cs hf (zero_cells hzp) hp hone
        refine ⟨.agg cs', ?_, .agg (all2_arr hc2)⟩
        simp only [Instr.build, Sem.run_bind, hzr, run_underlying hu, Result.andThen_ok, szA_run hsz, hc1]
        rfl
  · cases h

theorem all2_plain_eq : ∀ {l m : List Value}, All2 (VR μ) l m → l.all plainV = true → m = l
  | [], m, h, _ => h.inv_nil
  | a :: l, m, h, hp => by
    obtain ⟨b, m', rfl, r, hl⟩ := h.inv_cons
    simp only [List.all_cons, Bool.and_eq_true] at hp
    rw [r.eq_of_plain hp.1, all2_plain_eq hl hp.2]

theorem builtinT_run {b : Builtin} {argTypes : Array TypeId} {ty : TypeId} {args : List Value} {args' : Array Value} {v : Value} {consts : Array Bool}
    (h : builtinT P b argTypes ty args = some v) (hr : All2 (VR μ) args args'.toList) (w : World) :
    ∃ v', (builtin b argTypes ty consts args').run P w = .ok (.value v') w ∧ VR μ v v' := by
  unfold builtinT at h
  cases b <;> first | (simp at h; done) | skip
  case len =>
    simp only at h
    split at h
    · rename_i t ht
      split at h
      · rename_i s hu
        obtain ⟨x, m, hm, hx, hn⟩ := hr.inv_cons
        have := hn.inv_nil; subst this
        have := hx.inv_string; subst this
        simp at h; subst h
        refine ⟨_, ?_, .plain1 rfl⟩
        have h0 : args'[0]? = some (.string s) := by rw [← Array.getElem?_toList, hm]; rfl
        simp [builtin, Builtin.len_, ht, h0, run_underlying hu]
      · rename_i n e x hu
        obtain ⟨y, m, hm, hx, hn⟩ := hr.inv_cons
        have := hn.inv_nil; subst this
        simp at h; subst h
        refine ⟨_, ?_, .plain1 rfl⟩
        have h0 : args'[0]? = some y := by rw [← Array.getElem?_toList, hm]; rfl
        simp [builtin, Builtin.len_, ht, h0, run_underlying hu]
      · rename_i e a n k hu
        obtain ⟨y, m, hm, hx, hn⟩ := hr.inv_cons
        have := hn.inv_nil; subst this
        simp at h; subst h
        refine ⟨goInt n, ?_, .plain1 rfl⟩
        have h0 : args'[0]? = some y := by rw [← Array.getElem?_toList, hm]; rfl
        have hy : ∃ a' k', y = .slice a' n k' := by
          cases a with
          | none => obtain ⟨rfl, rfl, rfl⟩ := hx.inv_slice_nil; exact ⟨_, _, rfl⟩
          | some a =>
            obtain ⟨b, o, sp⟩ := a
            cases sp with
            | none =>
              rcases hx.inv_slice with ⟨p, k', _, rfl, _⟩ | ⟨rfl, _, a', _, rfl⟩
              · exact ⟨_, _, rfl⟩
              · exact ⟨_, _, rfl⟩
            | some i => exact (hx.inv_slice_spot).elim
        obtain ⟨a', k', rfl⟩ := hy
        simp [builtin, Builtin.len_, ht, h0, run_underlying hu]
      · cases h
    · cases h
  case cap =>
    simp only at h
    split at h
    · rename_i t ht
      split at h
      · rename_i n e x hu
        obtain ⟨y, m, hm, hx, hn⟩ := hr.inv_cons
        have := hn.inv_nil; subst this
        simp at h; subst h
        refine ⟨_, ?_, .plain1 rfl⟩
        have h0 : args'[0]? = some y := by rw [← Array.getElem?_toList, hm]; rfl
        simp [builtin, Builtin.cap_, ht, h0, run_underlying hu]
      · rename_i e a n k hu
        obtain ⟨y, m, hm, hx, hn⟩ := hr.inv_cons
        have := hn.inv_nil; subst this
        split at h
        · cases h
        · rename_i hk
          have hk' := isUnk_false.1 (by simpa using hk)
          simp at h; subst h
          refine ⟨goInt k, ?_, .plain1 rfl⟩
          have h0 : args'[0]? = some y := by rw [← Array.getElem?_toList, hm]; rfl
          have hy : ∃ a' n', y = .slice a' n' k := by
            cases a with
            | none => obtain ⟨rfl, rfl, rfl⟩ := hx.inv_slice_nil; exact ⟨_, _, rfl⟩
            | some a =>
              obtain ⟨b, o, sp⟩ := a
              cases sp with
              | none =>
                rcases hx.inv_slice with ⟨p, k', _, rfl, _, h1 | h1⟩ | ⟨rfl, h1, a', _, rfl⟩
                · omega
                · rw [h1.1]; exact ⟨_, _, rfl⟩
                · have : k = 0 := by omega
                  subst this; exact ⟨_, _, rfl⟩
              | some i => exact (hx.inv_slice_spot).elim
          obtain ⟨a', n', rfl⟩ := hy
          simp [builtin, Builtin.cap_, ht, h0, run_underlying hu]
      · cases h
    · cases h
  all_goals
    simp only at h
    split at h
    · rename_i hp
      have := all2_plain_eq hr hp
      have ha : args.toArray = args' := by rw [← this]
      rw [ha] at h
      obtain ⟨hrun, hv⟩ := evalPlain (μ := μ) h w
      exact ⟨v, by simp [builtin, hrun], hv⟩
    · cases h

theorem notTuple_of_build {parts : Array (Nat × Operand)} {ρ : Operand → Value} (h : parts.toList.all (fun x => noTuple (ρ x.2)) = true) :
    ∀ x ∈ parts.toList.map (fun (i, x) => (i, ρ x)), noTuple x.2 = true := by
  intro x hx
  obtain ⟨⟨i, y⟩, hm, rfl⟩ := List.mem_map.1 hx
  exact List.all_eq_true.1 h (i, y) hm

theorem parts_one {ρ ρ' : Operand → Value} {parts : Array (Nat × Operand)} (hr : ∀ x ∈ (parts.toList.map (·.2)), VR μ (ρ x) (ρ' x))
    (hn : parts.toList.all (fun x => noTuple (ρ x.2)) = true) : ∀ x ∈ parts.toList.map (fun (i, x) => (i, ρ x)), x.2.cells.toList.all Value.oneCell' = true := by
  intro x hx
  have h1 := notTuple_of_build hn x hx
  obtain ⟨⟨i, y⟩, hm, rfl⟩ := List.mem_map.1 hx
  exact (hr y (List.mem_map.2 ⟨(i, y), hm, rfl⟩)).partOk (noTuple_spec h1)

theorem arr_basic {ρ ρ' : Operand → Value} {xs : Array Operand} (h : ∀ x ∈ xs.toList, VR μ (ρ x) (ρ' x)) (hb : (xs.toList.all fun x => isBasic (ρ x)) = true) :
    All2 (VR0 μ) (xs.map ρ).toList (xs.map ρ').toList := by
  rw [Array.toList_map, Array.toList_map]
  refine ⟨by simp, fun i a ha => ?_⟩
  rw [List.getElem?_map] at ha ⊢
  cases e : xs.toList[i]? with
  | none => rw [e] at ha; cases ha
  | some x =>
    rw [e] at ha; simp at ha; subst ha
    have hm := List.mem_of_getElem? e
    exact ⟨ρ' x, rfl, (h x hm).zero_of_basic (List.all_eq_true.1 hb x hm)⟩

theorem list_rel {ρ ρ' : Operand → Value} {xs : List Operand} (h : ∀ x ∈ xs, VR μ (ρ x) (ρ' x)) : All2 (VR μ) (xs.map ρ) (xs.map ρ') := by
  refine ⟨by simp, fun i a ha => ?_⟩
  rw [List.getElem?_map] at ha ⊢
  cases e : xs[i]? with
  | none => rw [e] at ha; cases ha
  | some x => rw [e] at ha; simp at ha; subst ha; exact ⟨ρ' x, rfl, h x (List.mem_of_getElem? e)⟩

/-- EACH OPERATION THAT LOOKS AT NO MEMORY. -/
theorem simT {o : Oper} {ρ ρ' : Operand → Value} {v : Value} (h : stepT P ρ o = some v) (hr : OpR μ ρ ρ' o.op.operands.toList) (w : World) :
    ∃ v', (execOp ρ' o).run P w = .ok (.value v') w ∧ VR μ v v' := by
  obtain ⟨dst, op, ty, pos, after, guard⟩ := o
  unfold OpR at hr
  cases op <;> first | (simp [stepT] at h; done) | skip
  all_goals simp only [stepT] at h
  all_goals simp only [Op.operands] at hr
  all_goals simp only [execOp]
  case move x => simp at h; subst h; exact ⟨_, rfl, hr x (by simp)⟩
  case assign x => simp at h; subst h; exact ⟨_, rfl, hr x (by simp)⟩
  case pick c a b =>
    have hc := hr c (by simp)
    split at h
    · rename_i t e
      rw [e] at hc
      have := hc.inv_bool
      simp at h; subst h
      refine ⟨if t then ρ' a else ρ' b, ?_, ?_⟩
      · simp [this, asBool]
      · cases t
        · exact hr b (by simp)
        · exact hr a (by simp)
    · cases h
  case build t parts =>
    split at h
    · rename_i hn
      obtain ⟨v', h1, h2⟩ := buildA_run (parts' := parts.map fun (i, x) => (i, ρ' x)) h (parts_rel (fun x hx => hr x (by simpa using hx))) (parts_one (fun x hx => hr x (by simpa using hx)) hn) w
      exact ⟨v', by simp [h1], h2⟩
    · cases h
  case nilCheck x =>
    have hx := hr x (by simp)
    split at h
    · rename_i a e
      rw [e] at hx
      simp at h; subst h
      obtain ⟨b, o, sp⟩ := a
      cases sp with
      | some i => exact (hx.inv_ptr_spot).elim
      | none =>
        have hx' := hx
        obtain ⟨p, _, e'⟩ := hx.inv_ptr
        rw [e'] at hx' ⊢
        exact ⟨_, rfl, hx'⟩
    · rename_i f fs cs e
      rw [e] at hx
      simp at h; subst h
      have hx' := hx
      obtain ⟨a', b', e', _, _⟩ := hx.inv_func rfl
      rw [e'] at hx' ⊢
      exact ⟨_, rfl, hx'⟩
    · cases h
  case binOp op t x y _ =>
    obtain ⟨v', h1, h2⟩ := binA_run h (hr x (by simp)) (hr y (by simp)) w
    refine ⟨v', ?_, h2⟩
    simp only [Sem.run_bind] at h1 ⊢
    rw [h1]; rfl
  case unOp op t x =>
    split at h
    · rename_i hp
      have := (hr x (by simp)).eq_of_plain hp
      obtain ⟨h1, h2⟩ := evalPlain (μ := μ) h w
      exact ⟨v, by simp [this, h1], h2⟩
    · cases h
  case convert src dst x =>
    split at h
    · rename_i hp
      have := (hr x (by simp)).eq_of_plain hp
      obtain ⟨h1, h2⟩ := evalPlain (μ := μ) h w
      exact ⟨v, by simp [this, h1], h2⟩
    · cases h
  case fieldAddr s x f =>
    obtain ⟨v', h1, h2⟩ := fieldAddrA_run h (hr x (by simp)) w
    exact ⟨v', by simp [h1], h2⟩
  case field t x f =>
    obtain ⟨v', h1, h2⟩ := fieldA_run h (hr x (by simp)) w
    exact ⟨v', by simp [h1], h2⟩
  case indexAddr t x i =>
    obtain ⟨v', h1, h2⟩ := indexAddrA_run h (hr x (by simp)) (hr i (by simp)) w
    exact ⟨v', by simp [h1], h2⟩
  case index t x i =>
    obtain ⟨v', h1, h2⟩ := indexA_run h (hr x (by simp)) (hr i (by simp)) w
    exact ⟨v', by simp [h1], h2⟩
  case slice t x lo hi mx =>
    obtain ⟨v', h1, h2⟩ := sliceA_run h (hr x (by simp)) (optR_map fun y e => hr y (by subst e; simp)) (optR_map fun y e => hr y (by subst e; simp)) (optR_map fun y e => hr y (by subst e; simp)) w
    exact ⟨v', by simp [h1], h2⟩
  case makeFunc fn first cap =>
    split at h
    · rename_i hb
      simp only [Bool.and_eq_true, Bool.not_eq_true'] at hb
      obtain ⟨⟨hy, hb1⟩, hb2⟩ := hb
      have hb := And.intro hb1 hb2
      simp at h; subst h
      exact ⟨_, rfl, .one (.func hy (arr_basic (fun x hx => hr x (by simp at hx ⊢; exact .inl hx)) hb.1) (arr_basic (fun x hx => hr x (by simp at hx ⊢; exact .inr hx)) hb.2))⟩
    · cases h
  case extract x i =>
    have hx := hr x (by simp)
    split at h
    · rename_i vs e
      rw [e] at hx
      split at h
      · rename_i x0 hx0
        split at h
        · rename_i hnt
          simp only [Option.some.injEq] at h; subst h
          rcases hx.inv_tuple with ⟨ys, e', hys⟩ | hd
          · rw [← Array.getElem?_toList] at hx0
            obtain ⟨u, hu, r⟩ := hys.2 i _ hx0
            rw [Array.getElem?_toList] at hu
            rw [e']
            exact ⟨u, by simp [Instr.extract, hu], .a r⟩
          · subst hd
            cases i with
            | zero => simp at hx0; subst hx0; simp [noTuple] at hnt
            | succ i => simp at hx0
        · cases h
      · cases h
    · cases h
  case makeInterface t x =>
    have hx := hr x (by simp)
    split at h
    · cases h
    · rename_i d hd hu
      split at h
      · rename_i hb
        simp at h; subst h
        refine ⟨.iface t (ρ' x), ?_, .one (.iface (hx.zero_of_basic hb))⟩
        cases d <;> first | (simp [Instr.makeInterface, run_underlying hu]; done) | exact absurd rfl (hd _)
      · cases h
    · cases h
  case typeAssert x xt asserted ok =>
    have hx := hr x (by simp)
    split at h
    · cases h
    · rename_i d t u hd hu e
      split at h
      · rename_i ht
        rw [e] at hx
        obtain ⟨y, e', hy⟩ := hx.inv_iface
        simp at h; subst h
        rw [e']
        refine ⟨if ok then .tuple #[y, .bool true] else y, ?_, ?_⟩
        · cases d <;> first | (simp [Instr.typeAssert, run_underlying hu, ht]; done) | exact absurd rfl (hd _)
        · cases ok
          · exact .zero hy
          · exact .tup (by simpa using All2.cons (VRa.one (.zero hy)) (All2.cons (VRa.one (.refl_plain rfl)) All2.nil))
      · cases h
    · cases h
  case call c =>
    obtain ⟨cal, args, argTypes⟩ := c
    cases cal with
    | builtin b =>
      simp only at h
      have hl : All2 (VR μ) (args.toList.map ρ) (args.map ρ').toList := by
        rw [Array.toList_map]
        exact list_rel fun x hx => hr x (by simpa [Call.operands] using hx)
      obtain ⟨v', h1, h2⟩ := builtinT_run (consts := args.map fun | .const _ => true | _ => false) h hl w
      refine ⟨v', ?_, h2⟩
      simp only [resolve, invoke, Sem.run_bind, Sem.run_pure, Result.andThen_ok]
      exact h1
    | value f => simp at h
    | invoke r n => simp at h
end
end Go.Abs
end
section
namespace Go.Abs
open Go

def ownB : Blk → Bool
  | .cells _ ro => !ro
  | .map .. => true
  | .row _ ro => !ro
  | .smap .. => true

/-- Entries of maps. -/
structure ER (μ : Mu) (e e' : MapEntry) : Prop where
  key : e'.key = e.key
  born : e'.born = e.born
  val : VRa μ e.val e'.val

/-- A block, and the model's block that holds it. -/
def BR (μ : Mu) (base : Nat) (w : World) (p : Pl) : Blk → Prop
  | .cells cs ro => ∃ arr e fr, w.heap[p.c]? = some (.cells arr e fr) ∧ arr.size = p.N ∧
      (∀ i v, cs[i]? = some v → ∃ v', arr[p.s + i]? = some v' ∧ VR1 μ v v') ∧
      (ro = false → base ≤ p.c ∧ (∀ i, i < arr.size → ¬ (fr.1 ≤ i ∧ i < fr.2)) ∧ (cs.length = 1 → p.s = 0))
  | .map es clock => ∃ es', w.heap[p.c]? = some (.map es' clock) ∧ All2 (ER μ) es es'.toList ∧ base ≤ p.c
  | .row r ro => ∃ arr e fr, w.heap[p.c]? = some (.cells arr e fr) ∧ arr.size = p.N ∧
      (∀ i v, r.cells[i]? = some v → ∃ v', arr[p.s + i]? = some v' ∧ VR1 μ v v') ∧
      (ro = false → base ≤ p.c ∧ (∀ i, i < arr.size → ¬ (fr.1 ≤ i ∧ i < fr.2)) ∧ (r.cells.length = 1 → p.s = 0))
  | .smap kz vz es => ∃ es' ck, w.heap[p.c]? = some (.map es' ck) ∧ All2 (SMR μ.z kz vz) es es'.toList ∧ base ≤ p.c ∧ isKeyZ kz = true ∧ wfM es'.toList ck

abbrev Gm := Nat → Option Blk

structure Rel (μ : Mu) (base : Nat) (g : Gm) (w : World) : Prop where
  size : base ≤ w.heap.size
  blk : ∀ b p x, μ b = some p → g b = some x → BR μ base w p x
  inj : ∀ b b' p p' x x', μ b = some p → μ b' = some p' → g b = some x → g b' = some x' → b ≠ b' → ownB x = true → p.c ≠ p'.c
  frz : ∀ c i a, μ.z c i = some a → (∃ arr e fr, w.heap[c]? = some (.cells arr e fr) ∧ arr[i]? = some a) ∧ ∀ b p x, μ b = some p → g b = some x → ownB x = true → p.c = c → i < p.s

/-- What the model's blocks that are nobody's are like behind a step. -/
structure Fr (μ : Mu) (g : Gm) (w w' : World) : Prop where
  os : w'.os = w.os
  tape : w'.tape = w.tape
  output : w'.output = w.output
  size : w.heap.size ≤ w'.heap.size
  block : ∀ c, c < w.heap.size → (∀ b p x, μ b = some p → g b = some x → ownB x = true → p.c ≠ c) → w'.heap[c]? = w.heap[c]?

structure Sim (μ : Mu) (base : Nat) (g : Gm) (w : World) (μ' : Mu) (g' : Gm) (w' : World) : Prop where
  le : Mu.le μ μ'
  rel : Rel μ' base g' w'
  fr : Fr μ g w w'
  own : ∀ b p x, μ' b = some p → g' b = some x → w.heap.size ≤ p.c ∨ ∃ b0 p0 x0, μ b0 = some p0 ∧ g b0 = some x0 ∧ (ownB x = true → ownB x0 = true) ∧ p0.c = p.c
  fz : ∀ c i a, μ'.z c i = some a → μ.z c i = some a ∨ w.heap.size ≤ c ∨ ∃ b0 p0 x0, μ b0 = some p0 ∧ g b0 = some x0 ∧ ownB x0 = true ∧ p0.c = c

theorem Fr.refl (μ : Mu) (g : Gm) (w : World) : Fr μ g w w := ⟨rfl, rfl, rfl, Nat.le_refl _, fun _ _ _ => rfl⟩
theorem Sim.refl {μ : Mu} {base : Nat} {g : Gm} {w : World} (h : Rel μ base g w) : Sim μ base g w μ g w :=
  ⟨Mu.le_refl μ, h, Fr.refl μ g w, fun b p x hb hg => .inr ⟨b, p, x, hb, hg, id, rfl⟩, fun _ _ _ h => .inl h⟩
theorem Sim.trans {μ μ1 μ2 : Mu} {base : Nat} {g g1 g2 : Gm} {w w1 w2 : World} (h : Sim μ base g w μ1 g1 w1) (k : Sim μ1 base g1 w1 μ2 g2 w2) : Sim μ base g w μ2 g2 w2 := by
  refine ⟨Mu.le_trans h.le k.le, k.rel, ⟨k.fr.os.trans h.fr.os, k.fr.tape.trans h.fr.tape, k.fr.output.trans h.fr.output, Nat.le_trans h.fr.size k.fr.size, fun c hc hn => ?_⟩, fun b p x hb hg => ?_, fun c i a hc => ?_⟩
  · rw [k.fr.block c (Nat.lt_of_lt_of_le hc h.fr.size) ?_, h.fr.block c hc hn]
    intro b p x hb hg ho e
    rcases h.own b p x hb hg with h1 | ⟨b0, p0, x0, h1, h2, h3, h4⟩
    · omega
    · exact hn b0 p0 x0 h1 h2 (h3 ho) (h4.trans e)
  · rcases k.own b p x hb hg with h1 | ⟨b0, p0, x0, h1, h2, h3, h4⟩
    · exact .inl (Nat.le_trans h.fr.size h1)
    · rcases h.own b0 p0 x0 h1 h2 with h5 | ⟨b1, p1, x1, h5, h6, h7, h8⟩
      · exact .inl (by omega)
      · exact .inr ⟨b1, p1, x1, h5, h6, fun h => h7 (h3 h), h8.trans h4⟩
  · rcases k.fz c i a hc with h1 | h1 | ⟨b0, p0, x0, h1, h2, ho, h3⟩
    · exact h.fz c i a h1
    · exact .inr (.inl (Nat.le_trans h.fr.size h1))
    · rcases h.own b0 p0 x0 h1 h2 with h5 | ⟨b1, p1, x1, h5, h6, h7, h8⟩
      · exact .inr (.inl (by omega))
      · exact .inr (.inr ⟨b1, p1, x1, h5, h6, h7 ho, h8.trans h3⟩)

section
variable {P : Program} {μ : Mu} {base : Nat} {w : World}

theorem BR.keep {μ' : Mu} {w' : World} {p : Pl} {x : Blk} (h : BR μ base w p x) (hm : Mu.le μ μ') (hw : w'.heap[p.c]? = w.heap[p.c]?) : BR μ' base w' p x := by
  cases x with
  | cells cs ro =>
    obtain ⟨arr, e, fr, h1, h2, h3, h4⟩ := h
    exact ⟨arr, e, fr, hw.trans h1, h2, fun i v hi => let ⟨v', a, b⟩ := h3 i v hi; ⟨v', a, b.mono hm⟩, h4⟩
  | map es ck =>
    obtain ⟨es', h1, h2, h3⟩ := h
    exact ⟨es', hw.trans h1, h2.mono fun _ _ _ r => ⟨r.key, r.born, r.val.mono hm⟩, h3⟩
  | row r ro =>
    obtain ⟨arr, e, fr, h1, h2, h3, h4⟩ := h
    exact ⟨arr, e, fr, hw.trans h1, h2, fun i v hi => let ⟨v', a, b⟩ := h3 i v hi; ⟨v', a, b.mono hm⟩, h4⟩
  | smap kz vz es =>
    obtain ⟨es', ck, h1, h2, h3⟩ := h
    exact ⟨es', ck, hw.trans h1, h2.mono fun _ _ _ r => r.mono hm.z, h3⟩
theorem BR.lt {p : Pl} {x : Blk} (h : BR μ base w p x) : p.c < w.heap.size := by
  cases x with
  | cells cs ro => obtain ⟨arr, e, fr, h1, _⟩ := h; exact (Array.getElem?_eq_some_iff.1 h1).1
  | map es ck => obtain ⟨es', h1, _⟩ := h; exact (Array.getElem?_eq_some_iff.1 h1).1
  | row r ro => obtain ⟨arr, e, fr, h1, _⟩ := h; exact (Array.getElem?_eq_some_iff.1 h1).1
  | smap kz vz es => obtain ⟨es', ck, h1, _⟩ := h; exact (Array.getElem?_eq_some_iff.1 h1).1

theorem Rel.less {g g' : Gm} (h : Rel μ base g w) (hg : ∀ b p x, μ b = some p → g' b = some x → g b = some x) : Rel μ base g' w :=
  ⟨h.size, fun b p x hb hx => h.blk b p x hb (hg b p x hb hx), fun b b' p p' x x' h1 h2 h3 h4 h5 h6 => h.inj b b' p p' x x' h1 h2 (hg b p x h1 h3) (hg b' p' x' h2 h4) h5 h6,
    fun c i a hc => ⟨(h.frz c i a hc).1, fun b p x hb hx => (h.frz c i a hc).2 b p x hb (hg b p x hb hx)⟩⟩

/-- A row that stands for a row. -/
theorem row_rel {cs : List Value} {arr : Array Value} {s o n : Nat} (h : ∀ i v, cs[i]? = some v → ∃ v', arr[s + i]? = some v' ∧ VR1 μ v v') (hl : o + n ≤ cs.length) :
    All2 (VR1 μ) ((cs.drop o).take n) ((arr.toList.drop (o + s)).take n) ∧ ((arr.toList.drop (o + s)).take n).length = n := by
  have hlen : ((arr.toList.drop (o + s)).take n).length = n := by
    rw [List.length_take, List.length_drop, Array.length_toList]
    rcases Nat.eq_zero_or_pos n with rfl | hp
    · simp
    · have hi : o + n - 1 < cs.length := by omega
      obtain ⟨v', h1, _⟩ := h (o + n - 1) _ (List.getElem?_eq_getElem hi)
      have := (Array.getElem?_eq_some_iff.1 h1).1
      omega
  refine ⟨⟨by rw [hlen, List.length_take, List.length_drop]; omega, fun i a ha => ?_⟩, hlen⟩
  rw [List.getElem?_take] at ha ⊢
  split at ha
  · rename_i hi
    rw [if_pos hi]
    rw [List.getElem?_drop] at ha ⊢
    obtain ⟨v', h1, h2⟩ := h (o + i) a ha
    exact ⟨v', by rw [Array.getElem?_toList, ← h1]; congr 1; omega, h2⟩
  · cases ha

theorem cells_run {b o n : Nat} {h : Hp} {cs : List Value} (hc : h.cells b o n = some cs) (hr : Rel μ base h.get w) {p : Pl} (hp : μ b = some p) :
    ∃ cs', All2 (VR1 μ) cs cs' ∧ cs'.length = n ∧ (∀ j v, cs'[j]? = some v → w.cell? ((⟨p.c, o + p.s, none⟩ : Addr).add j) = some v) := by
  unfold Hp.cells Hp.row at hc
  cases e : h.get b with
  | none => simp [e] at hc
  | some x =>
    cases x with
    | map _ _ => simp [e] at hc
    | row _ _ => simp [e] at hc
    | smap _ _ _ => simp [e] at hc
    | cells row ro =>
      simp only [e] at hc
      split at hc
      · rename_i hl
        simp only [Option.some.injEq] at hc; subst hc
        obtain ⟨arr, et, fr, h1, h2, h3, h4⟩ := hr.blk b p _ hp e
        obtain ⟨h5, h6⟩ := row_rel (s := p.s) h3 hl
        refine ⟨_, h5, h6, fun j v hj => ?_⟩
        rw [add_rel, cell_of_row w p.c _ arr et fr h1]
        rw [List.getElem?_take] at hj
        split at hj
        · rw [List.getElem?_drop, Array.getElem?_toList] at hj
          rw [← hj]; congr 1; omega
        · cases hj
      · cases hc

theorem loadA_run {t : TypeId} {a a' v : Value} {h : Hp} (hl : loadA P t a h = some v) (hr : Rel μ base h.get w) (ha : VR μ a a') :
    ∃ v', (Instr.loadAt t a').run P w = .ok v' w ∧ VR μ v v' := by
  unfold loadA at hl
  split at hl
  · rename_i b o
    obtain ⟨p, hp, rfl⟩ := ha.inv_ptr
    split at hl
    · rename_i d n cs hu hn hrow
      unfold Instr.loadAt loadVar
      simp only [Instr.sureAddr, Sem.run_bind, Sem.run_pure, Result.andThen_ok, isAgg_run hu]
      cases hd : isAggD d with
      | true =>
        simp only [hd, if_true] at hl ⊢
        split at hl
        · rename_i hlen
          simp only [Option.some.injEq] at hl; subst hl
          have hc : h.cells b o n = some ((cs.drop o).take n) := by unfold Hp.cells; rw [hrow]; simp [hlen]
          obtain ⟨cs', h1, h2, h3⟩ := cells_run hc hr hp
          refine ⟨.agg cs'.toArray, ?_, .agg (by simpa using h1)⟩
          have := run_loadCells_list (P := P) w ⟨p.c, o + p.s, none⟩ cs' h3
          rw [h2] at this
          simp only [Sem.run_bind, szA_run hn, Result.andThen_ok, this, Sem.run_pure]
        · cases hl
      | false =>
        simp only [hd, Bool.false_eq_true, if_false] at hl ⊢
        unfold Hp.row at hrow
        cases e : h.get b with
        | none => simp [e] at hrow
        | some x =>
          cases x with
          | map _ _ => simp [e] at hrow
          | row _ _ => simp [e] at hrow
          | smap _ _ _ => simp [e] at hrow
          | cells row ro =>
            simp only [e, Option.some.injEq] at hrow; subst hrow
            obtain ⟨arr, et, fr, h1, h2, h3, h4⟩ := hr.blk b p _ hp e
            obtain ⟨v', h5, h6⟩ := h3 o v hl
            refine ⟨v', ?_, .one h6⟩
            have hcell : w.cell? ⟨p.c, o + p.s, none⟩ = some v' := by
              rw [cell_of_row w p.c _ arr et fr h1, ← h5]; congr 1; omega
            simp [hcell]
    · cases hl
  · cases hl

theorem checkKey_run {kt : TypeId} {kd : TypeDesc} (hk : P.underlying kt = some kd) (hkk : keyKind kd = true) (b : Bool) (key : Value) (w : World) :
    (Instr.checkKey b 10000 kt key).run P w = .ok () w := by
  rw [show (10000 : Nat) = 9999 + 1 from rfl, Instr.checkKey]
  simp only [Sem.run_bind, run_underlying hk, Result.andThen_ok]
  cases kd <;> first | (simp [keyKind] at hkk; done) | rfl

theorem findNow_rel {kd : TypeDesc} {key : Value} : ∀ {es es' : List MapEntry} {i : Nat} {r : Option (Nat × Value)}, All2 (ER μ) es es' → Instr.findNow kd key es i = some r →
    (r = none ∧ Instr.findNow kd key es' i = some none) ∨ ∃ j v v', r = some (j, v) ∧ Instr.findNow kd key es' i = some (some (j, v')) ∧ VRa μ v v'
  | [], es', i, r, h, hf => by
    have := h.inv_nil; subst this
    simp only [Instr.findNow, Option.some.injEq] at hf; subst hf
    exact .inl ⟨rfl, rfl⟩
  | e :: es, es', i, r, h, hf => by
    obtain ⟨e', es'', rfl, he, hr⟩ := h.inv_cons
    unfold Instr.findNow at hf ⊢
    rw [he.key]
    split at hf
    · rename_i hs
      simp only [Option.some.injEq] at hf; subst hf
      exact .inr ⟨i, e.val, e'.val, rfl, rfl, he.val⟩
    · rename_i hs
      exact findNow_rel hr hf
    · cases hf

theorem findKey_run {kt : TypeId} {kd : TypeDesc} (hk : P.underlying kt = some kd) {key : Value} {es : List MapEntry} {r : Option (Nat × Value)} (hf : Instr.findNow kd key es 0 = some r) (w : World) :
    (Instr.findKey kt key es).run P w = .ok r w := by
  unfold Instr.findKey
  simp only [Sem.run_bind, run_underlying hk, Result.andThen_ok, hf]
  rfl

theorem mapRow_run {m m' : Value} {h : Hp} {es : List MapEntry} (hm : mapRow h m = some es) (hr : Rel μ base h.get w) (hv : VR μ m m') :
    (m = .map none ∧ m' = .map none ∧ es = []) ∨ ∃ b p es' ck, m = .map (some b) ∧ μ b = some p ∧ m' = .map (some p.c) ∧ h.get b = some (.map es ck) ∧ w.heap[p.c]? = some (.map es' ck) ∧ All2 (ER μ) es es'.toList := by
  unfold mapRow at hm
  split at hm
  · simp at hm; subst hm; exact .inl ⟨rfl, hv.eq_of_plain rfl, rfl⟩
  · rename_i b
    obtain ⟨p, hp, rfl⟩ := hv.inv_map
    split at hm
    · rename_i es0 ck e
      simp at hm; subst hm
      obtain ⟨es', h1, h2, h3⟩ := hr.blk b p _ hp e
      exact .inr ⟨b, p, es', ck, rfl, hp, rfl, e, h1, h2⟩
    · cases hm
  · cases hm

theorem getObj_map {r : Nat} {es : Array MapEntry} {ck : Nat} (h : w.heap[r]? = some (.map es ck)) : (getObj r).run P w = .ok (.map es ck) w := by
  simp [getObj, Sem.run, h]

theorem lookupA_run {t : TypeId} {m m' key key' v : Value} {ok : Bool} {h : Hp} (hl : lookupA P t m key ok h = some v) (hr : Rel μ base h.get w) (hm : VR μ m m') (hk : VR μ key key') :
    ∃ v', (Instr.lookup t m' key' ok).run P w = .ok v' w ∧ VR μ v v' := by
  unfold lookupA at hl
  split at hl
  · rename_i kt et hu
    split at hl
    · rename_i kd es hku hrow
      split at hl
      · rename_i hkk
        simp only [Bool.and_eq_true] at hkk
        have hpk : plainV key = true := by
          cases key <;> simp_all [plainV, plain1]
        have := hk.eq_of_plain hpk; subst this
        have key0 : ∀ (es' : Array MapEntry), All2 (ER μ) es es'.toList → ∀ w0 : World, w0 = w →
            ∃ v', (do
              Instr.checkKey es'.isEmpty 10000 kt key'
              let (v, okk) ← match ← Instr.findKey kt key' es'.toList with
                | some (_, v) => pure (v, true)
                | none => pure (← zeroValue et, false)
              pure (if ok then .tuple #[v, .bool okk] else v) : Sem Value).run P w0 = .ok v' w0 ∧ VR μ v v' := by
          rintro es' hes w0 rfl
          simp only [Sem.run_bind, checkKey_run hku hkk.1, Result.andThen_ok]
          have mk : ∀ (x x' : Value) (okb : Bool), VRa μ x x' → VR μ (if ok then .tuple #[x, .bool okb] else x) (if ok then .tuple #[x', .bool okb] else x') := by
            intro x x' okb hx
            cases ok
            · exact .a hx
            · exact .tup (by simpa using All2.cons hx (All2.cons (VRa.one (.refl_plain rfl)) All2.nil))
          split at hl
          · rename_i i u hf
            simp only [Option.some.injEq] at hl; subst hl
            rcases findNow_rel hes hf with ⟨h1, _⟩ | ⟨j, v1, v2, h1, h2, h3⟩
            · cases h1
            · simp at h1; obtain ⟨rfl, rfl⟩ := h1
              rw [findKey_run hku h2]
              exact ⟨_, rfl, mk _ _ _ h3⟩
          · rename_i hf
            split at hl
            · rename_i z hz
              simp only [Option.some.injEq] at hl; subst hl
              obtain ⟨hzr, hzp⟩ := zeroA_run hz w0
              rcases findNow_rel hes hf with ⟨h1, h2⟩ | ⟨j, v1, v2, h1, _⟩
              · rw [findKey_run hku h2]
                simp only [Result.andThen_ok, Sem.run_bind, hzr, Sem.run_pure]
                exact ⟨_, rfl, mk _ _ _ (.refl_plain (plainA_spec hzp).1 (plainA_spec hzp).2)⟩
              · cases h1
            · cases hl
          · cases hl
        rcases mapRow_run hrow hr hm with ⟨rfl, rfl, rfl⟩ | ⟨b, p, es', ck, rfl, hp, rfl, hg, hw, hes⟩
        · obtain ⟨v', h1, h2⟩ := key0 #[] All2.nil w rfl
          exact ⟨v', by simp only [Instr.lookup, Sem.run_bind, run_underlying hu, Result.andThen_ok, Sem.run_pure] at h1 ⊢; exact h1, h2⟩
        · obtain ⟨v', h1, h2⟩ := key0 es' hes w rfl
          refine ⟨v', ?_, h2⟩
          simp only [Instr.lookup, Sem.run_bind, run_underlying hu, Result.andThen_ok, getObj_map hw, Sem.run_pure] at h1 ⊢
          exact h1
      · cases hl
    · cases hl
  · cases hl

theorem bytesOf_ints : ∀ {l : List Value} {bs : List UInt8}, bytesOf? l = some bs → ∃ ns : List Int, l = ns.map (Value.int .u8) ∧ bs = ns.map fun n => UInt8.ofNat n.toNat
  | [], bs, h => by simp only [bytesOf?, Option.some.injEq] at h; subst h; exact ⟨[], rfl, rfl⟩
  | v :: r, bs, h => by
    unfold bytesOf? at h
    split at h
    · rename_i b l hb hl
      simp only [Option.some.injEq] at h; subst h
      obtain ⟨ns, rfl, rfl⟩ := bytesOf_ints hl
      unfold byteOf? at hb
      split at hb
      · rename_i n
        simp only [Option.some.injEq] at hb; subst hb
        exact ⟨n :: ns, rfl, rfl⟩
      · cases hb
    · cases h

theorem bytesA_run {src dst : TypeId} {x x' v : Value} {h : Hp} (hl : bytesA P src x h = some v) (hd : P.underlying dst = some .string) (hr : Rel μ base h.get w) (hx : VR μ x x') :
    ∃ v', (convert src dst x').run P w = .ok v' w ∧ VR μ v v' := by
  unfold bytesA at hl
  split at hl
  · rename_i e hu
    split at hl
    · rename_i he
      split at hl
      · simp at hl; subst hl
        have := hx.eq_of_plain (v := .slice none 0 0) rfl; subst this
        exact ⟨_, run_convert_bytes_nil w src e hu he 0 0 dst hd, .plain1 rfl⟩
      · rename_i b o n k
        split at hl
        · rename_i cs hcs
          cases hb : bytesOf? cs with
          | none => simp [hb] at hl
          | some bs =>
            simp [hb] at hl; subst hl
            obtain ⟨ns, rfl, rfl⟩ := bytesOf_ints hb
            rcases hx.inv_slice with ⟨p, k', hp, rfl, hlen, _⟩ | ⟨rfl, hk, a', _, rfl⟩
            · obtain ⟨cs', h1, h2, h3⟩ := cells_run hcs hr hp
              have hpl : (ns.map (Value.int .u8)).all plain1 = true := by
                rw [List.all_map, List.all_eq_true]; intro i _; rfl
              have := all2_eq_of_plain h1 hpl; subst this
              have hlc := run_loadCells_list (P := P) w ⟨p.c, o + p.s, none⟩ _ h3
              rw [h2] at hlc
              refine ⟨_, ?_, .plain1 rfl⟩
              rw [run_convert_bytes_string w src dst e _ n k' hu he hd, run_bytesToString w _ n k' ns hlc, foldl_push_bytes]
              simp [ByteArray.empty, ByteArray.emptyWithCapacity]
              rfl
            · have hns : ns = [] := by
                unfold Hp.cells at hcs
                split at hcs
                · split at hcs
                  · simp at hcs; exact hcs
                  · cases hcs
                · cases hcs
              subst hns
              refine ⟨_, ?_, .plain1 rfl⟩
              rw [run_convert_bytes_string w src dst e _ 0 0 hu he hd, run_bytesToString w _ 0 0 [] rfl]
              rfl
        · cases hl
      · cases hl
    · cases hl
  · cases hl

/-- EACH OPERATION THAT READS MEMORY. -/
theorem simR {o : Oper} {ρ ρ' : Operand → Value} {v : Value} {h : Hp} (hk : kindOf P o.op = .R) (hs : stepR P ρ o h = some v) (hr : OpR μ ρ ρ' o.op.operands.toList) (hrel : Rel μ base h.get w) :
    ∃ v', (execOp ρ' o).run P w = .ok (.value v') w ∧ VR μ v v' := by
  obtain ⟨dst, op, ty, pos, after, guard⟩ := o
  unfold OpR at hr
  cases op <;> first | (simp [stepR] at hs; done) | skip
  all_goals simp only [stepR] at hs
  all_goals simp only [Op.operands] at hr
  all_goals simp only [execOp]
  case load t a =>
    obtain ⟨v', h1, h2⟩ := loadA_run hs hrel (hr a (by simp))
    exact ⟨v', by simp [h1], h2⟩
  case lookup t m k ok =>
    obtain ⟨v', h1, h2⟩ := lookupA_run hs hrel (hr m (by simp)) (hr k (by simp))
    exact ⟨v', by simp [h1], h2⟩
  case convert src dst x =>
    simp only [kindOf] at hk
    split at hk
    · rename_i e hu hd
      obtain ⟨v', h1, h2⟩ := bytesA_run hs hd hrel (hr x (by simp))
      exact ⟨v', by simp [h1], h2⟩
    · cases hk
    · cases hk
  case call c =>
    obtain ⟨cal, args, argTypes⟩ := c
    cases cal with
    | value f => simp at hs
    | invoke r n => simp at hs
    | builtin b =>
      cases b <;> first | (simp at hs; done) | skip
      simp only at hs
      split at hs
      · rename_i t ht
        have hl : All2 (VR μ) (args.toList.map ρ) (args.map ρ').toList := by
          rw [Array.toList_map]
          exact list_rel fun x hx => hr x (by simpa [Call.operands] using hx)
        split at hs
        · rename_i kt et m hu hm
          rw [hm] at hl
          obtain ⟨y, l, hy, hx, hn⟩ := hl.inv_cons
          have := hn.inv_nil; subst this
          have h0 : (args.map ρ')[0]? = some y := by rw [← Array.getElem?_toList, hy]; rfl
          cases hrow : mapRow h m with
          | none => simp [hrow] at hs
          | some es =>
            simp [hrow] at hs; subst hs
            refine ⟨goInt es.length, ?_, .plain1 rfl⟩
            simp only [resolve, invoke, Sem.run_bind, Sem.run_pure, Result.andThen_ok]
            rcases mapRow_run hrow hrel hx with ⟨rfl, rfl, rfl⟩ | ⟨b, p, es', ck, rfl, hp, rfl, hg, hw, hes⟩
            · simp [builtin, Builtin.len_, ht, h0, run_underlying hu]
            · have : es.length = es'.size := by rw [hes.1, Array.length_toList]
              simp [builtin, Builtin.len_, ht, h0, run_underlying hu, getObj_map hw, this]
        · cases hs
      · cases hs
end
end Go.Abs
end
section
namespace Go.Abs
open Go

/-- One block more. -/
structure Grow (w w' : World) (o : Obj) : Prop where
  os : w'.os = w.os
  tape : w'.tape = w.tape
  output : w'.output = w.output
  size : w'.heap.size = w.heap.size + 1
  old : ∀ c, c < w.heap.size → w'.heap[c]? = w.heap[c]?
  new : w'.heap[w.heap.size]? = some o

theorem grow_alloc (w : World) (o : Obj) : Grow w (w.alloc o) o :=
  ⟨rfl, rfl, rfl, by simp, fun c hc => RowKit.Below.heap_alloc w o c hc, heap_alloc_new w o⟩
theorem grow_drew_alloc (w : World) (o : Obj) : Grow w (w.drew.alloc o) o :=
  ⟨rfl, rfl, rfl, by simp, fun c hc => RowKit.Below.heap_alloc w.drew o c hc, heap_alloc_new w.drew o⟩
theorem grow_bytes (w : World) (e : TypeId) (s : ByteArray) : Grow w (Lib.bytesWorld w e s) (.cells (Lib.bytesCells w e s) e ((Lib.bytesCells w e s).size, (Lib.bytesCells w e s).size + 1)) := by
  refine ⟨?_, ?_, ?_, Lib.bytesWorld_size w e s, fun c hc => Lib.bytesWorld_at_old w e s c hc, Lib.bytesWorld_at_new w e s⟩ <;>
    simp [Lib.bytesWorld, World.freeze, World.alloc, World.drew, -World.alloc_eq, -World.drew_eq]

def Mu.upd (μ : Mu) (b : Nat) (p : Pl) : Mu := ⟨fun x => if x = b then some p else μ x, μ.z⟩
/-- The same, with more cells frozen. -/
def Mu.updz (μ : Mu) (b : Nat) (p : Pl) (z : Nat → Nat → Option Value) : Mu := ⟨fun x => if x = b then some p else μ x, z⟩
theorem Mu.updz_other {μ : Mu} {b c : Nat} {p : Pl} {z : Nat → Nat → Option Value} (h : c ≠ b) : Mu.updz μ b p z c = μ c := by simp [Mu.updz, h]
theorem Mu.le_upd {μ : Mu} {b : Nat} {p : Pl} (h : μ b = none) : Mu.le μ (Mu.upd μ b p) := by
  refine ⟨fun x q hx => ?_, fun _ _ _ h => h⟩
  unfold Mu.upd
  by_cases e : x = b
  · subst e; rw [h] at hx; cases hx
  · simp only [if_neg e]; exact hx
theorem Mu.upd_same (μ : Mu) (b : Nat) (p : Pl) : Mu.upd μ b p b = some p := by simp [Mu.upd]
theorem Mu.upd_other {μ : Mu} {b c : Nat} {p : Pl} (h : c ≠ b) : Mu.upd μ b p c = μ c := by simp [Mu.upd, h]

section
variable {P : Program} {μ : Mu} {base : Nat} {w : World}

/-- A new block of the heap for a new block of the world. -/
theorem sim_new {g : Gm} {w' : World} {o : Obj} {b : Nat} {x : Blk} {p : Pl} (hr : Rel μ base g w) (hg : Grow w w' o) (hb : μ b = none) (hpc : p.c = w.heap.size)
    (hx : BR (Mu.upd μ b p) base w' p x) : Sim μ base g w (Mu.upd μ b p) (fun c => if c = b then some x else g c) w' := by
  have hle := Mu.le_upd (p := p) hb
  refine ⟨hle, ⟨by have := hr.size; have := hg.size; omega, fun c q y hc hy => ?_, fun c c' q q' y y' hc hc' hy hy' hne ho => ?_, fun c i a hc => ?_⟩, ⟨hg.os, hg.tape, hg.output, by have := hg.size; omega, fun c hc _ => hg.old c hc⟩, fun c q y hc hy => ?_, fun _ _ _ h => .inl h⟩
  · by_cases e : c = b
    · subst e
      rw [Mu.upd_same] at hc
      simp at hc hy; subst hc; subst hy; exact hx
    · rw [Mu.upd_other e] at hc
      simp only [if_neg e] at hy
      have := hr.blk c q y hc hy
      exact this.keep hle (hg.old _ this.lt)
  · by_cases e : c = b
    · subst e
      have e' : c' ≠ c := fun h => hne h.symm
      rw [Mu.upd_same] at hc; rw [Mu.upd_other e'] at hc'
      simp at hc; subst hc
      simp only [if_neg e'] at hy'
      have := (hr.blk c' q' y' hc' hy').lt
      omega
    · rw [Mu.upd_other e] at hc
      simp only [if_neg e] at hy
      have h1 := (hr.blk c q y hc hy).lt
      by_cases e' : c' = b
      · subst e'
        rw [Mu.upd_same] at hc'
        simp at hc'; subst hc'
        omega
      · rw [Mu.upd_other e'] at hc'
        simp only [if_neg e'] at hy'
        exact hr.inj c c' q q' y y' hc hc' hy hy' hne ho
  · obtain ⟨⟨arr, e, fr, h1, h3⟩, h2⟩ := hr.frz c i a hc
    have hlt := (Array.getElem?_eq_some_iff.1 h1).1
    refine ⟨⟨arr, e, fr, (hg.old c hlt).trans h1, h3⟩, fun b' p' x' hb' hx' ho hcc => ?_⟩
    by_cases e : b' = b
    · subst e
      rw [Mu.upd_same] at hb'
      simp at hb'; subst hb'
      omega
    · rw [Mu.upd_other e] at hb'
      simp only [if_neg e] at hx'
      exact h2 b' p' x' hb' hx' ho hcc
  · by_cases e : c = b
    · subst e
      rw [Mu.upd_same] at hc
      simp at hc; subst hc
      exact .inl (by omega)
    · rw [Mu.upd_other e] at hc
      simp only [if_neg e] at hy
      exact .inr ⟨c, q, y, hc, hy, id, rfl⟩

/-- What a block that is made is like: its cells, and the world's. -/
theorem BR_cells {μ' : Mu} {w' : World} {arr : Array Value} {e : TypeId} {fr : Nat × Nat} {cs : List Value} {c : Nat} (hw : w'.heap[c]? = some (.cells arr e fr))
    (hcs : ∀ (i : Nat) (v : Value), cs[i]? = some v → ∃ v', arr[i]? = some v' ∧ VR1 μ' v v') (hb : base ≤ c) (hf : ∀ i, i < arr.size → ¬ (fr.1 ≤ i ∧ i < fr.2)) :
    BR μ' base w' ⟨c, 0, arr.size⟩ (.cells cs false) :=
  ⟨arr, e, fr, hw, rfl, fun i v h => by simpa using hcs i v h, fun _ => ⟨hb, hf, fun _ => rfl⟩⟩

theorem flat_zero {zs : List Value} (c : Nat) (sz : Nat) (hsz : zs.length = sz) (i : Nat) (hi : i < c * sz) :
    (List.replicate c zs).flatten[i]? = zs[i % sz]? := by
  induction c generalizing i with
  | zero => omega
  | succ c ih =>
    rw [List.replicate_succ, List.flatten_cons, List.getElem?_append]
    split
    · rename_i h; rw [Nat.mod_eq_of_lt (by omega)]
    · rename_i h
      have hlt : i - zs.length < c * sz := by rw [Nat.succ_mul] at hi; omega
      rw [ih (i - zs.length) hlt, hsz]
      rw [hsz] at h
      congr 1
      rw [Nat.mod_eq_sub_mod (a := i) (by omega)]
theorem flat_len {zs : List Value} (c : Nat) : (List.replicate c zs).flatten.length = c * zs.length := by
  induction c with
  | zero => simp
  | succ c ih => rw [List.replicate_succ, List.flatten_cons, List.length_append, ih, Nat.succ_mul]; omega

/-- The zeroes of a new row, as the model lays them. -/
theorem zero_row (z : Array Value) (n : Nat) (hz : 0 < z.size) : ((Array.range (n * z.size)).map (z[· % z.size]!)).toList = (List.replicate n z.toList).flatten := by
  apply List.ext_getElem?
  intro i
  by_cases hi : i < n * z.size
  · rw [flat_zero n z.size (by simp) i hi]
    have hm : i % z.size < z.size := Nat.mod_lt _ hz
    simp [hi, hm]
  · rw [List.getElem?_eq_none (by simp; omega), List.getElem?_eq_none (by rw [flat_len]; simp; omega)]

theorem range_none {α : Type} (f : Nat → α) : (Array.range 0).map f = #[] := Array.ext' (by simp)

theorem all2_flat {zs zs' : List Value} (h : All2 (VR1 μ) zs zs') : ∀ c, All2 (VR1 μ) (List.replicate c zs).flatten (List.replicate c zs').flatten
  | 0 => by simpa using All2.nil
  | c + 1 => by rw [List.replicate_succ, List.replicate_succ, List.flatten_cons, List.flatten_cons]; exact h.append (all2_flat h c)

/-- EACH OPERATION THAT MAKES A BLOCK. -/
theorem simN {o : Oper} {ρ ρ' : Operand → Value} {x : Blk} {f : Nat → Value} {g : Gm} (hk : kindOf P o.op = .N) (h : stepN P ρ o = some (x, f)) (hr : OpR μ ρ ρ' o.op.operands.toList)
    (hrel : Rel μ base g w) {b : Nat} (hb : μ b = none) :
    ∃ v' w' p, (execOp ρ' o).run P w = .ok (.value v') w' ∧ VR (Mu.upd μ b p) (f b) v' ∧ Sim μ base g w (Mu.upd μ b p) (fun c => if c = b then some x else g c) w' := by
  have hbase := hrel.size
  obtain ⟨dst, op, ty, pos, after, guard⟩ := o
  unfold OpR at hr
  cases op <;> first | (simp [stepN] at h; done) | skip
  all_goals simp only [stepN] at h
  all_goals simp only [Op.operands] at hr
  all_goals simp only [execOp]
  case alloc t =>
    split at h
    · rename_i z hz
      simp only [Option.some.injEq, Prod.mk.injEq] at h
      obtain ⟨rfl, rfl⟩ := h
      obtain ⟨hzr, hzp⟩ := zeroA_run hz w
      refine ⟨_, w.alloc (.cells z.cells t), ⟨w.heap.size, 0, z.cells.size⟩, ?_, .zero (.ptr (Mu.upd_same _ _ _)), ?_⟩
      · simp [Instr.alloc, hzr, newVar, newRow]
      · refine sim_new hrel (grow_alloc w _) hb rfl (BR_cells (grow_alloc w _).new (fun i v hi => ?_) hbase (by intro i _; simp))
        have := (zero_cells (μ := Mu.upd μ b ⟨w.heap.size, 0, z.cells.size⟩) hzp).2 i v hi
        simpa using this
    · cases h
  case box t y =>
    split at h
    · rename_i hone
      simp only [Option.some.injEq, Prod.mk.injEq] at h
      obtain ⟨rfl, rfl⟩ := h
      have hc := (hr y (by simp)).cells hone
      refine ⟨_, w.alloc (.cells (ρ' y).cells t), ⟨w.heap.size, 0, (ρ' y).cells.size⟩, ?_, .zero (.ptr (Mu.upd_same _ _ _)), ?_⟩
      · simp [Instr.box, newVar, newRow]
      · refine sim_new hrel (grow_alloc w _) hb rfl (BR_cells (grow_alloc w _).new (fun i v hi => ?_) hbase (by intro i _; simp))
        obtain ⟨v', h1, h2⟩ := hc.2 i v hi
        exact ⟨v', by simpa using h1, h2.mono (Mu.le_upd hb)⟩
    · cases h
  case buildSlice t n parts =>
    split at h
    · rename_i e hu
      split at h
      · rename_i z k hz hsz
        split at h
        · rename_i hc
          split at h
          · rename_i cs hf
            split at h
            · rename_i hone
              simp only [Option.some.injEq, Prod.mk.injEq] at h
              obtain ⟨rfl, rfl⟩ := h
              obtain ⟨hzr, hzp⟩ := zeroA_run hz w
              have hp : All2 (fun x y : Nat × Value => x.1 = y.1 ∧ VR μ x.2 y.2) (parts.toList.map fun (i, x) => (i, ρ x)) (parts.map fun (i, x) => (i, ρ' x)).toList :=
                parts_rel fun x hx => hr x (by simpa using hx)
              have hrow := zero_row z.cells n (by omega)
              rw [hc.1] at hrow
              have hcells : All2 (VR1 μ) (List.replicate n z.cells.toList).flatten ((Array.range (n * (k + 1))).map (z.cells[· % (k + 1)]!)).toList := by
                rw [hrow]; exact all2_flat (zero_cells hzp) n
              obtain ⟨cs', h1, h2⟩ := fill_run _ _ _ _ _ cs hf hcells hp (parts_one (fun x hx => hr x (by simpa using hx)) hc.2.2)
              refine ⟨_, w.alloc (.cells cs' e), ⟨w.heap.size, 0, cs'.size⟩, ?_, .zero (.slice (n := n) (k := n) (k' := n) (Mu.upd_same _ _ _) (Nat.le_refl _) (.inr ⟨rfl, ?_⟩)), ?_⟩
              · have hbig : ¬ (n * (k + 1) > 2 ^ 24) := by have := hc.2.1; omega
                have hbig' : ¬ (16777216 < n * (k + 1)) := by omega
                by_cases h0 : n * (k + 1) = 0
                · rw [h0, range_none] at h1
                  simp only [Array.toList_map] at h1
                  simp [Instr.buildSlice, run_underlying hu, szA_run hsz, h0, range_none, h1, newRow]
                · rw [← hc.1] at h1
                  simp only [Array.toList_map] at h1
                  rw [hc.1] at h1
                  simp [Instr.buildSlice, run_underlying hu, szA_run hsz, hbig', h0, hzr, hc.1, h1, newRow]
              · have := hc.2.1
                have : n ≤ 16777216 := Nat.le_trans (Nat.le_mul_of_pos_right n (by omega)) this
                unfold UNK0; omega
              · refine sim_new hrel (grow_alloc w _) hb rfl (BR_cells (grow_alloc w _).new (fun i v hi => ?_) hbase (by intro i _; simp))
                obtain ⟨v', h3, h4⟩ := h2.2 i v hi
                exact ⟨v', by simpa using h3, h4.mono (Mu.le_upd hb)⟩
            · cases h
          · cases h
        · cases h
      · cases h
    · cases h
  case makeSlice t l c =>
    split at h
    · rename_i e hu
      split at h
      · rename_i z i kl l0 kc c0 hz hi hl hcc
        split at h
        · rename_i hc
          simp only [Option.some.injEq, Prod.mk.injEq] at h
          obtain ⟨rfl, rfl⟩ := h
          obtain ⟨hzr, hzp⟩ := zeroA_run hz w
          have h1 := (hr l (by simp)); rw [hl] at h1
          have h1 := h1.inv_int
          have h2 := (hr c (by simp)); rw [hcc] at h2
          have h2 := h2.inv_int
          obtain ⟨hz1, hz2, hl0, hlc, hc62, hby⟩ := hc
          have hwl : IntKind.i64.wrap l0 = l0 := IntWalk.i64_in _ (by omega)
          have hwc : IntKind.i64.wrap c0 = c0 := IntWalk.i64_in _ (by omega)
          have hrow := zero_row z.cells c0.toNat (by omega)
          rw [hz1] at hrow
          refine ⟨_, w.alloc (.cells ((Array.range (c0.toNat * i.size)).map (z.cells[· % i.size]!)) e), ⟨w.heap.size, 0, ((Array.range (c0.toNat * i.size)).map (z.cells[· % i.size]!)).size⟩, ?_,
            .zero (.slice (n := l0.toNat) (k := c0.toNat) (k' := c0.toNat) (Mu.upd_same _ _ _) (by omega) (.inr ⟨rfl, by unfold UNK0; omega⟩)), ?_⟩
          · have hb1 : ¬ (c0 < 0) := by omega
            have hb2 : ¬ ((i.bytes : Int) * c0 > 281474976710656) := by omega
            have hb3 : ¬ (l0 < 0) := by omega
            have hb4 : ¬ (l0 > c0) := by omega
            have hb5 : ¬ (c0 < l0) := by omega
            have hb6 : ¬ (281474976710656 < (i.bytes : Int) * c0) := by omega
            by_cases h0 : c0.toNat * i.size = 0
            · simp [Instr.makeSlice, run_underlying hu, h1, h2, asInt, asIntOf, typeInfo, hi, hwl, hwc, hb1, hb3, hb5, hb6, sizeOf, h0, newRow, range_none]
            · simp [Instr.makeSlice, run_underlying hu, h1, h2, asInt, asIntOf, typeInfo, hi, hwl, hwc, hb1, hb3, hb5, hb6, sizeOf, h0, hzr, newRow, hz1]
          · refine sim_new hrel (grow_alloc w _) hb rfl (BR_cells (grow_alloc w _).new (fun j v hj => ?_) hbase (by intro i _; simp))
            have h3 := (all2_flat (zero_cells (μ := μ) hzp) c0.toNat).2 j v hj
            rw [← hrow] at h3
            obtain ⟨v', h4, h5⟩ := h3
            exact ⟨v', by rw [Array.getElem?_toList] at h4; exact h4, h5.mono (Mu.le_upd hb)⟩
        · cases h
      · cases h
    · cases h
  case makeMap t r =>
    cases r with
    | some r => simp at h
    | none =>
      simp only [Option.some.injEq, Prod.mk.injEq] at h
      obtain ⟨rfl, rfl⟩ := h
      refine ⟨_, w.alloc (.map #[] 0), ⟨w.heap.size, 0, 0⟩, ?_, .zero (.map (Mu.upd_same _ _ _)), ?_⟩
      · simp [Instr.makeMap]
      · exact sim_new hrel (grow_alloc w _) hb rfl ⟨#[], (grow_alloc w _).new, All2.nil, hbase⟩
  case convert src dst y =>
    split at h
    · rename_i e s hd hs
      split at h
      · rename_i he
        simp only [Option.some.injEq, Prod.mk.injEq] at h
        obtain ⟨rfl, rfl⟩ := h
        have hy := hr y (by simp); rw [hs] at hy
        have hy := hy.inv_string
        have hsrc : ∃ u, P.underlying src = some u := by
          simp only [kindOf] at hk
          split at hk
          · cases hk
          · rename_i e' hs' hd'; exact ⟨_, hs'⟩
          · cases hk
        obtain ⟨u, hsrc⟩ := hsrc
        have hrun := Lib.run_convert_string_bytes (P := P) w src dst e s hsrc hd he
        have hge := grownCap_ge w s.size 0 e
        refine ⟨_, Lib.bytesWorld w e s, ⟨w.heap.size, 0, (Lib.bytesCells w e s).size⟩, ?_, .zero (.slice (n := s.data.toList.length) (k := unk 1) (k' := grownCap w s.size 0 e) (Mu.upd_same _ _ _) hge (.inl ⟨UNK0_le_unk 1, ?_⟩)), ?_⟩
        · simp only [Sem.run_bind, hy, hrun, Result.andThen_ok, Sem.run_pure]
          simp
        · rw [unk_sub]
          simp only [Lib.bytesCells, Array.size_append, Array.size_map, Array.size_replicate]
          have : s.data.size = s.size := rfl
          omega
        · refine sim_new hrel (grow_bytes w e s) hb rfl (BR_cells (grow_bytes w e s).new (fun j v hj => ?_) hbase (by intro i hi; simp; omega))
          refine ⟨v, ?_, ?_⟩
          · simp only [valBytes, List.getElem?_map] at hj
            simp only [Lib.bytesCells]
            rw [Array.getElem?_append]
            cases hb : s.data.toList[j]? with
            | none => rw [hb] at hj; cases hj
            | some q =>
              rw [hb] at hj
              have hlt : j < s.data.size := by
                have := (List.getElem?_eq_some_iff.1 hb).1; simpa using this
              rw [if_pos (by simpa using hlt), Array.getElem?_map]
              rw [Array.getElem?_toList] at hb
              rw [hb]; exact hj
          · simp only [valBytes, List.getElem?_map] at hj
            cases hb : s.data.toList[j]? with
            | none => rw [hb] at hj; cases hj
            | some q => rw [hb] at hj; simp at hj; subst hj; exact .refl_plain rfl
      · cases h
    · cases h
theorem simNz {o : Oper} {ρ ρ' : Operand → Value} {x : Blk} {f : Nat → Value} {g : Gm} (hk : kindOf P o.op = .N) (h : stepN P ρ o = some (x, f)) (hr : OpR μ ρ ρ' o.op.operands.toList)
    (hrel : Rel μ base g w) {b : Nat} (hb : μ b = none) :
    ∃ v' w' p z, (execOp ρ' o).run P w = .ok (.value v') w' ∧ VR (Mu.updz μ b p z) (f b) v' ∧ Sim μ base g w (Mu.updz μ b p z) (fun c => if c = b then some x else g c) w' :=
  let ⟨v', w', p, h1, h2, h3⟩ := simN hk h hr hrel hb
  ⟨v', w', p, μ.z, h1, h2, h3⟩
end
end Go.Abs
end
section
namespace Go.Abs
open Go

/-- One block has turned. -/
structure Chg (w w' : World) (c : Nat) (o : Obj) : Prop where
  os : w'.os = w.os
  tape : w'.tape = w.tape
  output : w'.output = w.output
  size : w'.heap.size = w.heap.size
  other : ∀ d, d ≠ c → w'.heap[d]? = w.heap[d]?
  at_ : w'.heap[c]? = some o

theorem chg_setCell {w : World} {c : Nat} {arr : Array Value} {e : TypeId} {fr : Nat × Nat} (h : w.heap[c]? = some (.cells arr e fr)) (o : Nat) (v : Value) :
    Chg w (w.setCell ⟨c, o, none⟩ v) c (.cells (arr.setIfInBounds o v) e fr) := by
  refine ⟨rfl, rfl, rfl, by simp [World.setCell], fun d hd => RowKit.Below.heap_setCell _ _ _ _ hd, ?_⟩
  simp only [World.setCell, Array.getElem?_modify, h]
  rfl

theorem chg_setCells (c : Nat) (e : TypeId) (fr : Nat × Nat) : ∀ (vs : List Value) (o : Nat) (w : World) (arr : Array Value), w.heap[c]? = some (.cells arr e fr) →
    Chg w (w.setCells c o vs) c (.cells (spliceL arr.toList o vs).toArray e fr)
  | [], o, w, arr, h => ⟨rfl, rfl, rfl, rfl, fun _ _ => rfl, by simpa [World.setCells, spliceL] using h⟩
  | v :: r, o, w, arr, h => by
    have h1 := chg_setCell h o v
    have h2 := chg_setCells c e fr r (o + 1) _ _ h1.at_
    refine ⟨h2.os.trans h1.os, h2.tape.trans h1.tape, h2.output.trans h1.output, h2.size.trans h1.size, fun d hd => (h2.other d hd).trans (h1.other d hd), ?_⟩
    have := h2.at_
    simp only [Array.toList_setIfInBounds] at this
    exact this

section
variable {P : Program} {μ : Mu} {base : Nat} {w : World}

/-- A block of the heap has turned, and the world's block that holds it. -/
theorem sim_put {g : Gm} {w' : World} {o : Obj} {b : Nat} {x x' : Blk} {p : Pl} (hr : Rel μ base g w) (hp : μ b = some p) (hg : g b = some x) (ho : ownB x = true) (hc : Chg w w' p.c o)
    (hx : BR μ base w' p x') (ho' : ownB x' = true) (hpre : ∀ arr e fr, w.heap[p.c]? = some (.cells arr e fr) → ∃ arr' e' fr', w'.heap[p.c]? = some (.cells arr' e' fr') ∧ ∀ i, i < p.s → arr'[i]? = arr[i]?) : Sim μ base g w μ (fun c => if c = b then some x' else g c) w' := by
  have own' : ∀ c y, (if c = b then some x' else g c) = some y → ∃ y0, g c = some y0 := by
    intro c y h
    by_cases e : c = b
    · subst e; exact ⟨x, hg⟩
    · rw [if_neg e] at h; exact ⟨y, h⟩
  refine ⟨Mu.le_refl μ, ⟨by rw [hc.size]; exact hr.size, fun c q y hcq hy => ?_, fun c c' q q' y y' hcq hcq' hy hy' hne hoy => ?_, fun d i a hd => ?_⟩,
    ⟨hc.os, hc.tape, hc.output, by rw [hc.size]; exact Nat.le_refl _, fun d _ hn => hc.other d (fun e => hn b p x hp hg ho e.symm)⟩, fun c q y hcq hy => ?_, fun _ _ _ h => .inl h⟩
  · by_cases e : c = b
    · subst e
      rw [hp] at hcq; simp at hcq hy; subst hcq; subst hy; exact hx
    · simp only [if_neg e] at hy
      have hb := hr.blk c q y hcq hy
      exact hb.keep (Mu.le_refl μ) (hc.other _ (fun e' => hr.inj b c p q x y hp hcq hg hy (fun h => e h.symm) ho e'.symm))
  · by_cases e : c = b
    · subst e
      simp only [if_neg (fun h : c' = c => hne h.symm)] at hy'
      exact hr.inj c c' q q' x y' hcq hcq' hg hy' hne ho
    · simp only [if_neg e] at hy
      by_cases e' : c' = b
      · subst e'; exact hr.inj c c' q q' y x hcq hcq' hy hg hne hoy
      · simp only [if_neg e'] at hy'; exact hr.inj c c' q q' y y' hcq hcq' hy hy' hne hoy
  · obtain ⟨⟨arr, e, fr, h1, h3⟩, h2⟩ := hr.frz d i a hd
    refine ⟨?_, fun c q y hcq hy hoy hcc => ?_⟩
    · by_cases e4 : d = p.c
      · subst e4
        have hi := h2 b p x hp hg ho rfl
        obtain ⟨arr', e', fr', h5, h6⟩ := hpre arr e fr h1
        exact ⟨arr', e', fr', h5, (h6 i hi).trans h3⟩
      · exact ⟨arr, e, fr, (hc.other d e4).trans h1, h3⟩
    · by_cases e3 : c = b
      · subst e3; rw [hp] at hcq; simp at hcq; subst hcq; exact h2 c p x hp hg ho hcc
      · simp only [if_neg e3] at hy; exact h2 c q y hcq hy hoy hcc
  · right
    by_cases e : c = b
    · subst e
      simp at hy; subst hy
      exact ⟨c, q, x, hcq, hg, fun _ => by have := ho'; exact ho, rfl⟩
    · simp only [if_neg e] at hy; exact ⟨c, q, y, hcq, hy, id, rfl⟩

theorem splice_low : ∀ (vs l : List Value) (o : Nat) {i : Nat}, i < o → (spliceL l o vs)[i]? = l[i]?
  | [], _, _, _, _ => rfl
  | v :: r, l, o, i, h => by
    show (spliceL (l.set o v) (o + 1) r)[i]? = _
    rw [splice_low r _ _ (by omega), List.getElem?_set_ne (by omega)]
theorem pre_splice {w' : World} {c o s : Nat} {arr : Array Value} {e : TypeId} {fr : Nat × Nat} {vs : List Value} (h1 : w.heap[c]? = some (.cells arr e fr)) (h2 : w'.heap[c]? = some (.cells (spliceL arr.toList o vs).toArray e fr)) (ho : s ≤ o) :
    ∀ arr e fr, w.heap[c]? = some (.cells arr e fr) → ∃ arr' e' fr', w'.heap[c]? = some (.cells arr' e' fr') ∧ ∀ i, i < s → arr'[i]? = arr[i]? := by
  intro arr' e' fr' h3
  rw [h1] at h3
  simp only [Option.some.injEq, Obj.cells.injEq] at h3
  obtain ⟨rfl, rfl, rfl⟩ := h3
  refine ⟨_, _, _, h2, fun i hi => ?_⟩
  rw [List.getElem?_toArray, splice_low _ _ _ (by omega), Array.getElem?_toList]

/-- Cells written over, of a row and of the world's row. -/
theorem sim_splice {g : Gm} {b : Nat} {p : Pl} {cs vs vs' : List Value} (hr : Rel μ base g w) (hp : μ b = some p) (hg : g b = some (.cells cs false)) {o : Nat} (ho : o + vs.length ≤ cs.length)
    (hv : All2 (VR1 μ) vs vs') : ∃ w', (storeCells (⟨p.c, o + p.s, none⟩ : Addr) vs').run P w = .ok () w' ∧
      Sim μ base g w μ (fun c => if c = b then some (.cells (spliceL cs o vs) false) else g c) w' := by
  obtain ⟨arr, e, fr, h1, h2, h3, h4⟩ := hr.blk b p _ hp hg
  obtain ⟨hb, hf, hs0⟩ := h4 rfl
  have hlen : vs'.length = vs.length := hv.1.symm
  have hin : ∀ j, j < vs'.length → ∃ u, arr[o + p.s + j]? = some u := by
    intro j hj
    obtain ⟨u, hu, _⟩ := h3 (o + j) _ (List.getElem?_eq_getElem (by omega))
    exact ⟨u, by rw [← hu]; congr 1; omega⟩
  have hrun := run_storeCells_cells (P := P) p.c (o + p.s) vs' 0 w (fun j hj => by
      obtain ⟨u, hu⟩ := hin j hj
      rw [Nat.add_zero, cell_of_row w p.c _ arr e fr h1, hu]; rfl)
    (fun j hj => by
      obtain ⟨u, hu⟩ := hin j hj
      have hlt := (Array.getElem?_eq_some_iff.1 hu).1
      simp only [World.frozen?, h1, Nat.add_zero]
      have := hf _ hlt
      simpa using this)
    (fun v hm => by
      obtain ⟨i, hi⟩ := List.mem_iff_getElem?.1 hm
      rcases hv.get i with ⟨_, e2⟩ | ⟨x, y, _, e2, r⟩
      · rw [e2] at hi; cases hi
      · rw [e2] at hi; simp at hi; subst hi; exact r.oneCell.2)
  rw [Nat.add_zero] at hrun
  have hch := chg_setCells p.c e fr vs' (o + p.s) w arr h1
  refine ⟨_, hrun, sim_put hr hp hg rfl hch ⟨_, e, fr, hch.at_, by simp [length_splice]; exact h2, ?_, fun _ => ⟨hb, by simpa [length_splice] using hf, fun hl => hs0 (by rw [← hl, length_splice])⟩⟩ rfl (pre_splice h1 hch.at_ (Nat.le_add_left _ _))⟩
  -- the cells behind
  have key : ∀ (vs vs' : List Value) (o : Nat) (cs : List Value) (l : List Value), All2 (VR1 μ) vs vs' →
      (∀ (i : Nat) (v : Value), cs[i]? = some v → ∃ v', l[p.s + i]? = some v' ∧ VR1 μ v v') →
      ∀ (i : Nat) (v : Value), (spliceL cs o vs)[i]? = some v → ∃ v', (spliceL l (o + p.s) vs')[p.s + i]? = some v' ∧ VR1 μ v v' := by
    intro vs
    induction vs with
    | nil => intro vs' o cs l hv h i v hi; have := hv.inv_nil; subst this; exact h i v hi
    | cons u us ih =>
      intro vs' o cs l hv h i v hi
      obtain ⟨u', us', rfl, r, hr⟩ := hv.inv_cons
      unfold spliceL at hi ⊢
      have := ih us' (o + 1) (cs.set o u) (l.set (o + p.s) u') hr (fun j y hj => by
        rw [List.getElem?_set] at hj ⊢
        by_cases e : o = j
        · subst e
          rw [if_pos rfl] at hj
          split at hj
          · rename_i hlt
            simp at hj; subst hj
            obtain ⟨y', hy', _⟩ := h o _ (List.getElem?_eq_getElem hlt)
            have hlt' := (List.getElem?_eq_some_iff.1 hy').1
            exact ⟨u', by rw [if_pos (by omega), if_pos (by omega)], r⟩
          · cases hj
        · rw [if_neg e] at hj
          rw [if_neg (by omega)]
          exact h j y hj) i v hi
      rw [show o + p.s + 1 = o + 1 + p.s from by omega]
      exact this
  intro i v hi
  have := key vs vs' o cs arr.toList hv (fun i v h => by obtain ⟨v', a, b⟩ := h3 i v h; exact ⟨v', by rw [Array.getElem?_toList]; exact a, b⟩) i v hi
  simpa using this

theorem get_put_fun {h : Hp} {b : Nat} {x : Option Blk} (hb : b < h.next) : (h.put b x).get = fun c => if c = b then x else h.get c := funext fun c => Hp.get_put h b c x hb
theorem get_push_fun (h : Hp) (x : Blk) : (h.push x).get = fun c => if c = h.next then some x else h.get c := funext fun c => Hp.get_push h x c

/-- A block that stands for none stays as it was. -/
def Keeps (μ : Mu) (h h' : Hp) : Prop := ∀ c, c < h.next → μ c = none → h'.get c = h.get c ∨ h'.get c = none
theorem Keeps.refl (μ : Mu) (h : Hp) : Keeps μ h h := fun _ _ _ => .inl rfl
theorem Keeps.put {h : Hp} {b : Nat} {p : Pl} {x : Option Blk} (hp : μ b = some p) (hb : b < h.next) : Keeps μ h (h.put b x) := by
  intro c _ hc
  left
  rw [Hp.get_put _ _ _ _ hb, if_neg]
  intro e; subst e; rw [hp] at hc; cases hc
theorem Keeps.push (μ : Mu) (h : Hp) (x : Blk) : Keeps μ h (h.push x) := by
  intro c hc _
  left
  rw [Hp.get_push, if_neg (by omega)]

theorem storeA_run {t : TypeId} {a a' x x' : Value} {h h' : Hp} (hs : storeA P t a x h = some h') (hr : Rel μ base h.get w) (ha : VR μ a a') (hx : VR μ x x') :
    ∃ w', (Instr.storeAt t a' x').run P w = .ok () w' ∧ Sim μ base h.get w μ h'.get w' ∧ h'.next = h.next ∧ Keeps μ h h' := by
  unfold storeA at hs
  split at hs
  · rename_i b o
    obtain ⟨p, hp, rfl⟩ := ha.inv_ptr
    split at hs
    · rename_i n cs hn hg
      split at hs
      · rename_i hc
        simp only [Option.some.injEq] at hs; subst hs
        have hv := hx.cells hc.2.2
        obtain ⟨w', h1, h2⟩ := sim_splice (P := P) hr hp hg (o := o) (by rw [Array.length_toList, hc.1]; exact hc.2.1) hv
        refine ⟨w', ?_, by rw [get_put_fun (Hp.lt_of_get hg)]; exact h2, rfl, .put hp (Hp.lt_of_get hg)⟩
        have hsz : x'.cells.size = n := by rw [← hc.1, ← Array.length_toList, ← Array.length_toList, hv.1]
        simp [Instr.storeAt, Instr.sureAddr, storeVar, szA_run hn, hsz, h1]
      · cases hs
    · cases hs
  · cases hs

theorem modify_rel {es : List MapEntry} {es' : Array MapEntry} (h : All2 (ER μ) es es'.toList) (i : Nat) {f f' : MapEntry → MapEntry} (hf : ∀ e e', ER μ e e' → ER μ (f e) (f' e')) :
    All2 (ER μ) (es.modify i f) (es'.modify i f').toList := by
  rw [Array.toList_modify]
  refine ⟨by simp [h.1], fun j a ha => ?_⟩
  rw [List.getElem?_modify] at ha ⊢
  rcases h.get j with ⟨e1, e2⟩ | ⟨x, y, e1, e2, r⟩
  · rw [e1] at ha; simp at ha
  · rw [e1] at ha
    rw [e2]
    simp only [Option.map_some, Option.map_eq_map, Option.some.injEq] at ha ⊢
    subst ha
    split
    · exact ⟨_, rfl, hf x y r⟩
    · exact ⟨_, rfl, r⟩

theorem chg_setObj {r : Nat} {es es2 : Array MapEntry} {ck ck2 : Nat} (h : w.heap[r]? = some (.map es ck)) :
    ∃ w', (setObj r (.map es2 ck2)).run P w = .ok () w' ∧ Chg w w' r (.map es2 ck2) := by
  refine ⟨{ w with heap := w.heap.setIfInBounds r (.map es2 ck2) }, by simp [setObj, Sem.run, h], rfl, rfl, rfl, by simp, fun d hd => ?_, ?_⟩
  · exact Array.getElem?_setIfInBounds_ne (fun e => hd e.symm)
  · have := (Array.getElem?_eq_some_iff.1 h).1
    simp [this]

/-- A map of the heap turned. -/
theorem sim_map {g : Gm} {b : Nat} {p : Pl} {es es2 : List MapEntry} {es' es2' : Array MapEntry} {ck ck2 : Nat} (hr : Rel μ base g w) (hp : μ b = some p) (hg : g b = some (.map es ck))
    (hw : w.heap[p.c]? = some (.map es' ck)) (h2 : All2 (ER μ) es2 es2'.toList) :
    ∃ w', (setObj p.c (.map es2' ck2)).run P w = .ok () w' ∧ Sim μ base g w μ (fun c => if c = b then some (.map es2 ck2) else g c) w' := by
  obtain ⟨w', h3, h4⟩ := chg_setObj (P := P) (es2 := es2') (ck2 := ck2) hw
  obtain ⟨_, _, _, hb⟩ := hr.blk b p _ hp hg
  exact ⟨w', h3, sim_put hr hp hg rfl h4 ⟨es2', h4.at_, h2, hb⟩ rfl fun arr e fr h => (by rw [hw] at h; cases h)⟩

theorem VR.noTup {v v' : Value} (h : VR μ v v') (hn : noTuple v = true) : VRa μ v v' := by
  cases h with
  | a e => exact e
  | tup _ => simp [noTuple] at hn
  | dead => simp [noTuple, Abs.dead] at hn

theorem ba_eq {a b : ByteArray} (h : (a == b) = true) : a = b := by
  rw [beq_toListBytes, ByteArray.toList_eq, ByteArray.toList_eq, beq_iff_eq] at h
  exact ByteArray.ext (Array.toList_inj.1 h)
theorem ba_refl (a : ByteArray) : (a == a) = true := by
  rw [beq_toListBytes]; simp
theorem sameNow_eq {kd : TypeDesc} {a b : Value} (h : Instr.sameNow kd a b = some true) : a = b ∧ ∀ n, Instr.sameBits n b a = true := by
  unfold Instr.sameNow at h
  split at h
  · split at h
    · rename_i he
      simp at h; subst h; subst he
      exact ⟨rfl, fun n => by cases n <;> simp [Instr.sameBits]⟩
    · cases h
  · have := ba_eq (by simpa using h); subst this
    exact ⟨rfl, fun n => by cases n <;> simp [Instr.sameBits, ba_refl]⟩
  · simp at h; subst h; exact ⟨rfl, fun n => by cases n <;> simp [Instr.sameBits]⟩
  · cases h
theorem sameNow_bits {kd : TypeDesc} {a b : Value} (h : Instr.sameNow kd a b = some true) (n : Nat) : Instr.sameBits n b a = true := (sameNow_eq h).2 n

theorem findNow_some {kd : TypeDesc} {key : Value} : ∀ {es : List MapEntry} {i j : Nat} {v : Value}, Instr.findNow kd key es i = some (some (j, v)) →
    i ≤ j ∧ ∃ e, es[j - i]? = some e ∧ e.val = v ∧ Instr.sameNow kd key e.key = some true
  | [], i, j, v, h => by simp [Instr.findNow] at h
  | e :: es, i, j, v, h => by
    unfold Instr.findNow at h
    split at h
    · rename_i hs
      simp at h; obtain ⟨rfl, rfl⟩ := h
      exact ⟨Nat.le_refl _, e, by simp, rfl, hs⟩
    · obtain ⟨h1, e', h2, h3, h4⟩ := findNow_some h
      refine ⟨by omega, e', ?_, h3, h4⟩
      rw [show j - i = (j - (i + 1)) + 1 from by omega]
      simpa using h2
    · cases h

theorem keyStays_run {kd : TypeDesc} {key : Value} {es : List MapEntry} {es' : Array MapEntry} {j : Nat} {v : Value} (h : Instr.findNow kd key es 0 = some (some (j, v))) (hes : All2 (ER μ) es es'.toList) :
    (Instr.keyThatStays (((es'[j]?).map (·.key)).getD key) key).run P w = .ok key w := by
  obtain ⟨_, e, h2, h3, h4⟩ := findNow_some h
  rw [Nat.sub_zero] at h2
  obtain ⟨e', h5, h6⟩ := hes.2 j e h2
  rw [Array.getElem?_toList] at h5
  rw [h5]
  simp only [Option.map_some, Option.getD_some, h6.key]
  unfold Instr.keyThatStays
  rw [if_pos (sameNow_bits h4 10000)]
  rfl

theorem mapUpdateA_run {t : TypeId} {m m' key key' v v' : Value} {h h' : Hp} (hs : mapUpdateA P t m key v h = some h') (hr : Rel μ base h.get w) (hm : VR μ m m') (hk : VR μ key key') (hv : VR μ v v') :
    ∃ w', (Instr.mapUpdate t m' key' v').run P w = .ok () w' ∧ Sim μ base h.get w μ h'.get w' ∧ h'.next = h.next ∧ Keeps μ h h' := by
  unfold mapUpdateA at hs
  split at hs
  · rename_i kt et b hu
    obtain ⟨p, hp, rfl⟩ := hm.inv_map
    split at hs
    · rename_i kd es ck hku hg
      split at hs
      · rename_i hkk
        simp only [Bool.and_eq_true] at hkk
        have hpk : plainV key = true := by cases key <;> simp_all [plainV, plain1]
        have := hk.eq_of_plain hpk; subst this
        obtain ⟨es', hw, hes, hb⟩ := hr.blk b p _ hp hg
        have hva := hv.noTup hkk.2
        split at hs
        · rename_i j u hf
          simp only [Option.some.injEq] at hs; subst hs
          rcases findNow_rel hes hf with ⟨h1, _⟩ | ⟨j', v1, v2, h1, h2, h3⟩
          · cases h1
          · simp at h1; obtain ⟨rfl, rfl⟩ := h1
            have hmod := modify_rel hes j (f := fun e => { e with key := key', val := v }) (f' := fun e => { e with key := key', val := v' }) (fun e e' r => ⟨rfl, r.born, hva⟩)
            obtain ⟨w', h4, h5⟩ := sim_map (P := P) (ck2 := ck) hr hp hg hw hmod
            refine ⟨w', ?_, by rw [get_put_fun (Hp.lt_of_get hg)]; exact h5, rfl, .put hp (Hp.lt_of_get hg)⟩
            simp only [Instr.mapUpdate, Sem.run_bind, run_underlying hu, Result.andThen_ok, getObj_map hw, checkKey_run hku hkk.1.1, findKey_run hku h2, keyStays_run hf hes, h4]
        · rename_i hf
          simp only [Option.some.injEq] at hs; subst hs
          rcases findNow_rel hes hf with ⟨h1, h2⟩ | ⟨j', v1, v2, h1, _⟩
          · have happ : All2 (ER μ) (es ++ [{ key := key', val := v, born := ck }]) (es'.push { key := key', val := v', born := ck }).toList := by
              rw [Array.toList_push]
              exact hes.append (All2.cons ⟨rfl, rfl, hva⟩ All2.nil)
            obtain ⟨w', h4, h5⟩ := sim_map (P := P) (ck2 := ck + 1) hr hp hg hw happ
            refine ⟨w', ?_, by rw [get_put_fun (Hp.lt_of_get hg)]; exact h5, rfl, .put hp (Hp.lt_of_get hg)⟩
            simp only [Instr.mapUpdate, Sem.run_bind, run_underlying hu, Result.andThen_ok, getObj_map hw, checkKey_run hku hkk.1.1, findKey_run hku h2, h4]
          · cases h1
        · cases hs
      · cases hs
    · cases hs
  · cases hs

theorem mapEntryA_run {t : TypeId} {m m' key key' v : Value} {h h' : Hp} (hs : mapEntryA P t m key h = some (v, h')) (hr : Rel μ base h.get w) (hm : VR μ m m') (hk : VR μ key key') :
    ∃ v' w', (Instr.mapEntry t m' key').run P w = .ok v' w' ∧ VR μ v v' ∧ Sim μ base h.get w μ h'.get w' ∧ h'.next = h.next ∧ Keeps μ h h' := by
  unfold mapEntryA at hs
  split at hs
  · rename_i kt et b hu
    obtain ⟨p, hp, rfl⟩ := hm.inv_map
    split at hs
    · rename_i kd es ck hku hg
      split at hs
      · rename_i hkk
        simp only [Bool.and_eq_true] at hkk
        have hpk : plainV key = true := by cases key <;> simp_all [plainV, plain1]
        have := hk.eq_of_plain hpk; subst this
        obtain ⟨es', hw, hes, hb⟩ := hr.blk b p _ hp hg
        split at hs
        · rename_i j u hf
          simp only [Option.some.injEq, Prod.mk.injEq] at hs
          obtain ⟨rfl, rfl⟩ := hs
          rcases findNow_rel hes hf with ⟨h1, _⟩ | ⟨j', v1, v2, h1, h2, h3⟩
          · cases h1
          · simp at h1; obtain ⟨rfl, rfl⟩ := h1
            obtain ⟨_, e0, h6, h7, h8⟩ := findNow_some hf
            rw [Nat.sub_zero] at h6
            obtain ⟨e1, h9, h10⟩ := hes.2 j e0 h6
            -- the entry's key is written over with itself
            have hkey : e0.key = key' := (sameNow_eq h8).1.symm
            have hmod : All2 (ER μ) es (es'.modify j fun e => { e with key := key' }).toList := by
              rw [Array.toList_modify]
              refine ⟨by simp [hes.1], fun i a ha => ?_⟩
              rw [List.getElem?_modify]
              obtain ⟨y, hy, r⟩ := hes.2 i a ha
              rw [hy]
              by_cases e : j = i
              · subst e
                rw [h6] at ha; simp at ha; subst ha
                refine ⟨{ y with key := key' }, by simp, ⟨hkey.symm, r.born, r.val⟩⟩
              · exact ⟨y, by simp [e], r⟩
            obtain ⟨w', h4, h5⟩ := sim_map (P := P) (ck2 := ck) hr hp hg hw hmod
            have hself : (fun c => if c = b then some (Blk.map es ck) else h.get c) = h.get := by
              funext c
              by_cases e : c = b
              · subst e; simp [hg]
              · rw [if_neg e]
            rw [hself] at h5
            rw [Array.getElem?_toList] at h9
            refine ⟨.tuple #[v2, goInt (((es'[j]?).map (·.born)).getD 0)], w', ?_, ?_, h5, rfl, .refl μ _⟩
            · simp only [Instr.mapEntry, Sem.run_bind, run_underlying hu, Result.andThen_ok, getObj_map hw, checkKey_run hku hkk.1, findKey_run hku h2, keyStays_run hf hes, h4, Sem.run_pure]
            · have hb : VR1 μ (goInt (((es[j]?).map (·.born)).getD 0)) (goInt (((es'[j]?).map (·.born)).getD 0)) := by
                rw [h6, h9]
                simp only [Option.map_some, Option.getD_some, h10.born]
                exact .refl_plain rfl
              exact .tup (by simpa using All2.cons h3 (All2.cons (VRa.one hb) All2.nil))
        · rename_i hf
          split at hs
          · rename_i z hz
            simp only [Option.some.injEq, Prod.mk.injEq] at hs
            obtain ⟨rfl, rfl⟩ := hs
            obtain ⟨hzr, hzp⟩ := zeroA_run hz w
            have hza : VRa μ z z := .refl_plain (plainA_spec hzp).1 (plainA_spec hzp).2
            rcases findNow_rel hes hf with ⟨h1, h2⟩ | ⟨j', v1, v2, h1, _⟩
            · have happ : All2 (ER μ) (es ++ [{ key := key', val := z, born := ck }]) (es'.push { key := key', val := z, born := ck }).toList := by
                rw [Array.toList_push]
                exact hes.append (All2.cons ⟨rfl, rfl, hza⟩ All2.nil)
              obtain ⟨w', h4, h5⟩ := sim_map (P := P) (ck2 := ck + 1) hr hp hg hw happ
              refine ⟨_, w', ?_, .tup (by simpa using All2.cons hza (All2.cons (VRa.one (.refl_plain rfl)) All2.nil)), by rw [get_put_fun (Hp.lt_of_get hg)]; exact h5, rfl, .put hp (Hp.lt_of_get hg)⟩
              simp only [Instr.mapEntry, Sem.run_bind, run_underlying hu, Result.andThen_ok, getObj_map hw, checkKey_run hku hkk.1, findKey_run hku h2, hzr, h4, Sem.run_pure]
            · cases h1
          · cases hs
        · cases hs
      · cases hs
    · cases hs
  · cases hs

theorem findIdx_rel {q : MapEntry → Bool} {q' : MapEntry → Bool} : ∀ {es es' : List MapEntry}, All2 (ER μ) es es' → (∀ e e', ER μ e e' → q e = q' e') → es'.findIdx? q' = es.findIdx? q
  | [], es', h, _ => by have := h.inv_nil; subst this; rfl
  | e :: es, es', h, hq => by
    obtain ⟨e', es'', rfl, he, hr⟩ := h.inv_cons
    rw [List.findIdx?_cons, List.findIdx?_cons, hq e e' he, findIdx_rel hr hq]

theorem entryStoreA_run {t : TypeId} {m m' st st' v v' : Value} {h h' : Hp} (hs : entryStoreA m st v h = some h') (hr : Rel μ base h.get w) (hm : VR μ m m') (hst : VR μ st st') (hv : VR μ v v') :
    ∃ w', (Instr.entryStore t m' st' v').run P w = .ok () w' ∧ Sim μ base h.get w μ h'.get w' ∧ h'.next = h.next ∧ Keeps μ h h' := by
  unfold entryStoreA at hs
  split at hs
  · rename_i b k born
    obtain ⟨p, hp, rfl⟩ := hm.inv_map
    have := hst.inv_int; subst this
    split at hs
    · rename_i es ck hg hn
      split at hs
      · rename_i i hi
        simp only [Option.some.injEq] at hs; subst hs
        obtain ⟨es', hw, hes, hb⟩ := hr.blk b p _ hp hg
        have hva := hv.noTup hn
        have hmod := modify_rel hes i (f := fun e => { e with val := v }) (f' := fun e => { e with val := v' }) (fun e e' r => ⟨r.key, r.born, hva⟩)
        obtain ⟨w', h4, h5⟩ := sim_map (P := P) (ck2 := ck) hr hp hg hw hmod
        refine ⟨w', ?_, by rw [get_put_fun (Hp.lt_of_get hg)]; exact h5, rfl, .put hp (Hp.lt_of_get hg)⟩
        have hfi : es'.findIdx? (fun e => (e.born : Int) == born) = some i := by
          have h6 := findIdx_rel (q := fun e => (e.born : Int) == born) (q' := fun e => (e.born : Int) == born) hes (fun e e' r => by rw [r.born])
          rw [hi] at h6
          rw [← h6]
          cases es'; simp
        simp only [Instr.entryStore, Sem.run_bind, getObj_map hw, Result.andThen_ok, asInt, asIntOf, Sem.run_pure, hfi, h4]
      · cases hs
    · cases hs
  · cases hs

theorem deleteA_run {t : TypeId} {argTypes : Array TypeId} {ty : TypeId} {m m' key key' : Value} {args : Array Value} {h h' : Hp} (hs : deleteA P t m key h = some h') (ht : argTypes[0]? = some t)
    (hargs : args[0]? = some m') (hargs1 : args[1]? = some key') (hr : Rel μ base h.get w) (hm : VR μ m m') (hk : VR μ key key') :
    ∃ w', (Builtin.delete_ argTypes ty args).run P w = .ok (.tuple #[]) w' ∧ Sim μ base h.get w μ h'.get w' ∧ h'.next = h.next ∧ Keeps μ h h' := by
  unfold deleteA at hs
  split at hs
  · rename_i kt et hu
    split at hs
    · rename_i kd hku
      split at hs
      · rename_i hkk
        simp only [Bool.and_eq_true] at hkk
        have hpk : plainV key = true := by cases key <;> simp_all [plainV, plain1]
        have := hk.eq_of_plain hpk; subst this
        split at hs
        · simp only [Option.some.injEq] at hs; subst hs
          have := hm.eq_of_plain (v := .map none) rfl; subst this
          refine ⟨w, ?_, Sim.refl hr, rfl, .refl μ _⟩
          simp only [Builtin.delete_, ht, hargs, hargs1, Sem.run_bind, run_underlying hu, Result.andThen_ok, checkKey_run hku hkk.1, Sem.run_pure]
        · rename_i b
          obtain ⟨p, hp, rfl⟩ := hm.inv_map
          split at hs
          · rename_i es ck hg
            obtain ⟨es', hw, hes, hb⟩ := hr.blk b p _ hp hg
            split at hs
            · rename_i j u hf
              simp only [Option.some.injEq] at hs; subst hs
              rcases findNow_rel hes hf with ⟨h1, _⟩ | ⟨j', v1, v2, h1, h2, h3⟩
              · cases h1
              · simp at h1; obtain ⟨rfl, rfl⟩ := h1
                have her : All2 (ER μ) (es.eraseIdx j) (es'.eraseIdxIfInBounds j).toList := by
                  have : (es'.eraseIdxIfInBounds j).toList = es'.toList.eraseIdx j := by
                    unfold Array.eraseIdxIfInBounds
                    split
                    · simp
                    · rename_i hge; rw [List.eraseIdx_of_length_le (by simpa using hge)]
                  rw [this]
                  refine ⟨by simp [List.length_eraseIdx, hes.1], fun i a ha => ?_⟩
                  rw [List.getElem?_eraseIdx] at ha ⊢
                  split at ha
                  · rename_i hlt; rw [if_pos hlt]; exact hes.2 i a ha
                  · rename_i hlt; rw [if_neg hlt]; exact hes.2 _ a ha
                obtain ⟨w', h4, h5⟩ := sim_map (P := P) (ck2 := ck) hr hp hg hw her
                refine ⟨w', ?_, by rw [get_put_fun (Hp.lt_of_get hg)]; exact h5, rfl, .put hp (Hp.lt_of_get hg)⟩
                simp only [Builtin.delete_, ht, hargs, hargs1, Sem.run_bind, run_underlying hu, Result.andThen_ok, getObj_map hw, checkKey_run hku hkk.1, findKey_run hku h2, h4, Sem.run_pure]
            · rename_i hf
              simp only [Option.some.injEq] at hs; subst hs
              rcases findNow_rel hes hf with ⟨h1, h2⟩ | ⟨j', v1, v2, h1, _⟩
              · obtain ⟨w', h4, h5⟩ := sim_map (P := P) (ck2 := ck) hr hp hg hw hes
                have hself : (fun c => if c = b then some (Blk.map es ck) else h.get c) = h.get := by
                  funext c
                  by_cases e : c = b
                  · subst e; simp [hg]
                  · rw [if_neg e]
                rw [hself] at h5
                refine ⟨w', ?_, h5, rfl, .refl μ _⟩
                simp only [Builtin.delete_, ht, hargs, hargs1, Sem.run_bind, run_underlying hu, Result.andThen_ok, getObj_map hw, checkKey_run hku hkk.1, findKey_run hku h2, h4, Sem.run_pure]
              · cases h1
            · cases hs
          · cases hs
        · cases hs
      · cases hs
    · cases hs
  · cases hs
end
end Go.Abs
end
section
namespace Go.Abs
open Go

section
variable {P : Program} {μ : Mu} {base : Nat} {w : World}

/-- What is appended: how many, the cells, in the world and behind a draw. -/
structure Src (P : Program) (w : World) (e : TypeId) (size : Nat) (z : Value) (xt : TypeId) (x : Value) (m : Nat) (news : Array Value) : Prop where
  plain : (∃ k kk n, P.underlying xt = some (.int k) ∧ x = .int kk n ∧ 0 ≤ n ∧ n < 4611686018427387904 ∧ m = n.toNat ∧ news.toList = (List.replicate m z.cells.toList).flatten) ∨
    ((P.underlying xt = some .string ∨ ∃ t, P.underlying xt = some (.slice t)) ∧ (∀ w0, (Builtin.lenOf x).run P w0 = .ok m w0) ∧ (Builtin.firstCells size m x).run P w = .ok news w ∧ (Builtin.firstCells size m x).run P w.drew = .ok news w.drew)

theorem zeroCells_list (z : Array Value) (n : Nat) (hz : 0 < z.size) : (Builtin.zeroCells z n).toList = (List.replicate n z.toList).flatten := by
  unfold Builtin.zeroCells; exact zero_row z n hz

/-- What append comes to: in the room that there is, or in a new row. -/
def apRoom (P : Program) (w : World) (size : Nat) (bs : Option Addr) (sLen sCap m : Nat) (news : Array Value) : Result Value :=
  match bs with
  | some a => ((storeCells (a.add (sLen * size)) news.toList).run P w).andThen fun _ w' => .ok (.slice bs (sLen + m) sCap) w'
  | none => .ok (.slice bs (sLen + m) sCap) w
def apGrow (w : World) (e : TypeId) (z : Value) (sLen sCap m : Nat) (olds news : Array Value) : Result Value :=
  .ok (.slice (some ⟨w.heap.size, 0, none⟩) (sLen + m) (grownCap w (sLen + m) sCap e)) (w.drew.alloc (.cells (olds ++ news ++ Builtin.zeroCells z.cells (grownCap w (sLen + m) sCap e - (sLen + m))) e))

theorem append_run {argTypes : Array TypeId} {ty st xt e : TypeId} {args : Array Value} {bs : Option Addr} {sLen sCap m : Nat} {x : Value} {i : TypeInfo} {z : Value} {news : Array Value}
    (h0 : argTypes[0]? = some st) (h1 : argTypes[1]? = some xt) (ha0 : args[0]? = some (.slice bs sLen sCap)) (ha1 : args[1]? = some x) (hu : P.underlying st = some (.slice e)) (hi : P.info? e = some i)
    (hz : i.zero = some z) (hzs : z.cells.size = i.size) (hsz : 0 < i.size) (hby : m * i.bytes ≤ 140737488355328) (src : Src P w e i.size z xt x m news) :
    (sLen + m ≤ sCap → (Builtin.append_ argTypes ty args).run P w = apRoom P w i.size bs sLen sCap m news) ∧
    (sCap < sLen + m → sLen + m ≤ 4611686018427387904 → (sLen + m) * i.bytes ≤ 140737488355328 → ∀ olds, (Builtin.firstCells i.size sLen (.slice bs sLen sCap)).run P w.drew = .ok olds w.drew →
      (Builtin.append_ argTypes ty args).run P w = apGrow w e z sLen sCap m olds news) := by
  rcases src.plain with ⟨k, kk, n, hxt, rfl, hn0, hn1, rfl, hnews⟩ | ⟨hxt, hlen, hf1, hf2⟩
  · have hw : IntKind.i64.wrap n = n := IntWalk.i64_in _ (by omega)
    have hb1 : ¬ (n < 0) := by omega
    have hb2 : ¬ (281474976710656 < n * (i.bytes : Int)) := by
      have h : ((n.toNat * i.bytes : Nat) : Int) ≤ 140737488355328 := Int.ofNat_le.2 hby
      rw [Int.natCast_mul, Int.toNat_of_nonneg hn0] at h
      omega
    have hz2 : n.toNat * i.size = 0 → news = #[] := by
      intro h
      have h' : n.toNat = 0 := by
        rcases Nat.mul_eq_zero.1 h with h | h
        · exact h
        · omega
      rw [h'] at hnews
      apply Array.ext'
      rw [hnews]; rfl
    have hz3 : Builtin.zeroCells z.cells n.toNat = news := by
      apply Array.ext'
      rw [zeroCells_list _ _ (by omega), hnews]
    refine ⟨fun hroom => ?_, fun hg h62 hbb olds ho => ?_⟩
    · by_cases h : n.toNat * i.size = 0
      · have := hz2 h
        subst this
        cases bs <;> simp [apRoom, Builtin.append_, h0, h1, ha0, ha1, run_underlying hu, run_underlying hxt, Go.sizeOf, typeInfo, hi, asInt, asIntOf, hw, hb1, hb2, hroom, h]
      · cases bs <;> simp [apRoom, Builtin.append_, h0, h1, ha0, ha1, run_underlying hu, run_underlying hxt, Go.sizeOf, typeInfo, zeroValue, hi, hz, asInt, asIntOf, hw, hb1, hb2, hroom, h, hz3]
    · have h1' : ¬ (sLen + n.toNat ≤ sCap) := by omega
      have h63' : ¬ (9223372036854775807 < ((sLen : Int) + (n.toNat : Int))) := by omega
      have h63n : ¬ (9223372036854775807 < ((sLen : Int) + n)) := by omega
      have hmx : max n 0 = n := by omega
      have h48 := growslice_fits hg hbb
      have h48' : ¬ (281474976710656 < Builtin.nextslicecap (sLen + n.toNat) sCap * i.bytes) := by omega
      by_cases h : n.toNat * i.size = 0
      · have := hz2 h
        subst this
        simp [apGrow, Builtin.append_, h0, h1, ha0, ha1, run_underlying hu, run_underlying hxt, Go.sizeOf, typeInfo, zeroValue, hi, hz, asInt, asIntOf, hw, hb1, hb2, h1', h63n, hmx, h48', Question.forced, ho, newRow, grownCap, h]
      · simp [apGrow, Builtin.append_, h0, h1, ha0, ha1, run_underlying hu, run_underlying hxt, Go.sizeOf, typeInfo, zeroValue, hi, hz, asInt, asIntOf, hw, hb1, hb2, h1', h63n, hmx, h48', Question.forced, ho, newRow, grownCap, h, hz3]
  · refine ⟨fun hroom => ?_, fun hg h62 hbb olds ho => ?_⟩
    · rcases hxt with hxt | ⟨t, hxt⟩ <;> (cases bs <;> simp [apRoom, Builtin.append_, h0, h1, ha0, ha1, run_underlying hu, run_underlying hxt, Go.sizeOf, typeInfo, hi, hlen, hroom, hf1])
    · have h1' : ¬ (sLen + m ≤ sCap) := by omega
      have h63' : ¬ (9223372036854775807 < ((sLen : Int) + (m : Int))) := by omega
      have h48 := growslice_fits hg hbb
      have h48' : ¬ (281474976710656 < Builtin.nextslicecap (sLen + m) sCap * i.bytes) := by omega
      rcases hxt with hxt | ⟨t, hxt⟩ <;>
        simp [apGrow, Builtin.append_, h0, h1, ha0, ha1, run_underlying hu, run_underlying hxt, Go.sizeOf, typeInfo, zeroValue, hi, hz, hlen, h1', h63', h48', Question.forced, ho, hf2, newRow, grownCap]

theorem sourceA_run {xt : TypeId} {x x' : Value} {h : Hp} {m sz : Nat} {zero news : List Value} {e : TypeId} {z : Value} (hs : sourceA P sz xt zero x h = some (m, news)) (hr : Rel μ base h.get w) (hx : VR μ x x')
    (hzero : (∀ k, P.underlying xt ≠ some (.int k)) ∨ (zero = z.cells.toList ∧ plainA z = true ∧ z.cells.size = sz)) :
    ∃ news', Src P w e sz z xt x' m news' ∧ All2 (VR1 μ) news news'.toList ∧ news'.size = news.length ∧ news.length = m * sz := by
  unfold sourceA at hs
  split at hs
  · rename_i k kk n hu
    split at hs
    · rename_i hn
      simp only [Option.some.injEq, Prod.mk.injEq] at hs
      obtain ⟨rfl, rfl⟩ := hs
      have := hx.inv_int; subst this
      rcases hzero with hz0 | ⟨rfl, hzp, hzs⟩
      · exact absurd hu (hz0 k)
      exact ⟨(List.replicate n.toNat z.cells.toList).flatten.toArray, ⟨.inl ⟨k, kk, n, hu, rfl, hn.1, hn.2, rfl, by simp⟩⟩, by simpa using all2_flat (zero_cells hzp) n.toNat, by simp, by rw [flat_len, Array.length_toList, hzs]⟩
    · cases hs
  · rename_i t hu
    simp only [Option.some.injEq, Prod.mk.injEq] at hs
    obtain ⟨rfl, rfl⟩ := hs
    have := hx.eq_of_plain (v := .slice none 0 0) rfl; subst this
    exact ⟨#[], ⟨.inr ⟨.inr ⟨t, hu⟩, fun _ => rfl, run_firstCells_none w _ _ _ _, run_firstCells_none _ _ _ _ _⟩⟩, All2.nil, rfl, by simp⟩
  · rename_i t b o n k hu
    cases hc : h.cells b o (n * sz) with
    | none =>
      simp [hc] at hs
      obtain ⟨rfl, rfl, rfl⟩ := hs
      rcases hx.inv_slice with ⟨p, k', hp, rfl, hlen, _⟩ | ⟨_, hk, a', _, rfl⟩
      · exact ⟨#[], ⟨.inr ⟨.inr ⟨t, hu⟩, fun _ => rfl, run_firstCells_some w sz 0 _ 0 k' [] (by simp) (by simp), run_firstCells_some w.drew sz 0 _ 0 k' [] (by simp) (by simp)⟩⟩, All2.nil, rfl, by simp⟩
      · exact ⟨#[], ⟨.inr ⟨.inr ⟨t, hu⟩, fun _ => rfl, run_firstCells_some w sz 0 a' 0 0 [] (by simp) (by simp), run_firstCells_some w.drew sz 0 a' 0 0 [] (by simp) (by simp)⟩⟩, All2.nil, rfl, by simp⟩
    | some cs =>
      simp [hc] at hs
      obtain ⟨rfl, rfl⟩ := hs
      rcases hx.inv_slice with ⟨p, k', hp, rfl, hlen, _⟩ | ⟨rfl, hk, a', _, rfl⟩
      · obtain ⟨cs', h1, h2, h3⟩ := cells_run hc hr hp
        exact ⟨cs'.toArray, ⟨.inr ⟨.inr ⟨t, hu⟩, fun _ => rfl, run_firstCells_some w sz n _ n k' cs' h2 h3, run_firstCells_some w.drew sz n _ n k' cs' h2 (by simpa using h3)⟩⟩, by simpa using h1, by simp [h1.1], by rw [h1.1, h2]⟩
      · have hcs : cs = [] := by
          unfold Hp.cells at hc
          split at hc
          · split at hc
            · simp at hc; exact hc
            · cases hc
          · cases hc
        subst hcs
        exact ⟨#[], ⟨.inr ⟨.inr ⟨t, hu⟩, fun _ => rfl, run_firstCells_some w sz 0 a' 0 0 [] (by simp) (by simp), run_firstCells_some w.drew sz 0 a' 0 0 [] (by simp) (by simp)⟩⟩, All2.nil, rfl, by simp⟩
  · rename_i s hu
    split at hs
    · rename_i hsz
      simp only [Option.some.injEq, Prod.mk.injEq] at hs
      obtain ⟨rfl, rfl⟩ := hs
      have := hx.inv_string; subst this
      have hfc : ∀ w0 : World, (Builtin.firstCells sz s.data.toList.length (.string s)).run P w0 = .ok (s.data.map fun b => Value.int .u8 b.toNat) w0 := by
        intro w0
        have hex : s.extract 0 s.data.toList.length = s := by
          apply ByteArray.ext
          rw [ByteArray.data_extract]
          simp
        simp only [Builtin.firstCells, hex]
        rfl
      refine ⟨s.data.map fun b => Value.int .u8 b.toNat, ⟨.inr ⟨.inl hu, fun _ => rfl, hfc w, hfc _⟩⟩, ?_, by simp [valBytes], by rw [hsz]; simp [valBytes]⟩
      simp only [valBytes, Array.toList_map]
      exact All2.refl fun a ha => by
        obtain ⟨b, _, rfl⟩ := List.mem_map.1 ha
        exact .refl_plain rfl
    · cases hs
  · cases hs
end
end Go.Abs
end
section
namespace Go.Abs
open Go

section
variable {P : Program} {μ : Mu} {base : Nat} {w : World}

/-- A new block of the heap that takes an old one's place in the world. -/
theorem sim_move {g : Gm} {w' : World} {o : Obj} {b b' : Nat} {x x' : Blk} {p q : Pl} (hr : Rel μ base g w) (hp : μ b = some p) (hg : g b = some x) (ho : ownB x = true) (hb' : μ b' = none)
    (hq : q.c = p.c) (hc : Chg w w' p.c o) (hx : BR (Mu.upd μ b' q) base w' q x') (ho' : ownB x' = true) (hqs : p.s ≤ q.s) (hpre : ∀ arr e fr, w.heap[p.c]? = some (.cells arr e fr) → ∃ arr' e' fr', w'.heap[p.c]? = some (.cells arr' e' fr') ∧ ∀ i, i < p.s → arr'[i]? = arr[i]?) :
    Sim μ base g w (Mu.upd μ b' q) (fun c => if c = b' then some x' else if c = b then none else g c) w' := by
  have hle := Mu.le_upd (p := q) hb'
  have hbb : b ≠ b' := fun e => by subst e; rw [hb'] at hp; cases hp
  refine ⟨hle, ⟨by rw [hc.size]; exact hr.size, fun c r y hcr hy => ?_, fun c c' r r' y y' hcr hcr' hy hy' hne hoy => ?_, fun d i a hd => ?_⟩,
    ⟨hc.os, hc.tape, hc.output, by rw [hc.size]; exact Nat.le_refl _, fun d _ hn => hc.other d (fun e => hn b p x hp hg ho e.symm)⟩, fun c r y hcr hy => ?_, fun _ _ _ h => .inl h⟩
  · by_cases e : c = b'
    · subst e
      rw [Mu.upd_same] at hcr
      simp at hcr hy; subst hcr; subst hy; exact hx
    · rw [Mu.upd_other e] at hcr
      simp only [if_neg e] at hy
      by_cases e2 : c = b
      · simp [e2] at hy
      · simp only [if_neg e2] at hy
        have hb := hr.blk c r y hcr hy
        exact hb.keep hle (hc.other _ (fun e' => hr.inj b c p r x y hp hcr hg hy (fun h => e2 h.symm) ho e'.symm))
  · by_cases e : c = b'
    · subst e
      have e' : c' ≠ c := fun h => hne h.symm
      rw [Mu.upd_same] at hcr; rw [Mu.upd_other e'] at hcr'
      simp at hcr; subst hcr
      simp only [if_neg e'] at hy'
      by_cases e2 : c' = b
      · simp [e2] at hy'
      · simp only [if_neg e2] at hy'
        rw [hq]
        exact hr.inj b c' p r' x y' hp hcr' hg hy' (fun h => e2 h.symm) ho
    · rw [Mu.upd_other e] at hcr
      simp only [if_neg e] at hy
      by_cases e2 : c = b
      · simp [e2] at hy
      · simp only [if_neg e2] at hy
        by_cases e3 : c' = b'
        · subst e3
          rw [Mu.upd_same] at hcr'
          simp at hcr'; subst hcr'
          rw [hq]
          intro h
          exact hr.inj c b r p y x hcr hp hy hg e2 hoy h
        · rw [Mu.upd_other e3] at hcr'
          simp only [if_neg e3] at hy'
          by_cases e4 : c' = b
          · simp [e4] at hy'
          · simp only [if_neg e4] at hy'
            exact hr.inj c c' r r' y y' hcr hcr' hy hy' hne hoy
  · obtain ⟨⟨arr, e, fr, h1, h3⟩, h2⟩ := hr.frz d i a hd
    refine ⟨?_, fun c r y hcr hy hoy hcc => ?_⟩
    · by_cases e4 : d = p.c
      · subst e4
        have hi := h2 b p x hp hg ho rfl
        obtain ⟨arr', e', fr', h5, h6⟩ := hpre arr e fr h1
        exact ⟨arr', e', fr', h5, (h6 i hi).trans h3⟩
      · exact ⟨arr, e, fr, (hc.other d e4).trans h1, h3⟩
    · by_cases e3 : c = b'
      · subst e3; rw [Mu.upd_same] at hcr; simp at hcr; subst hcr; exact Nat.lt_of_lt_of_le (h2 b p x hp hg ho (hq.symm.trans hcc)) hqs
      · rw [Mu.upd_other e3] at hcr
        simp only [if_neg e3] at hy
        by_cases e4 : c = b
        · simp [e4] at hy
        · simp only [if_neg e4] at hy; exact h2 c r y hcr hy hoy hcc
  · by_cases e : c = b'
    · subst e
      rw [Mu.upd_same] at hcr
      simp at hcr hy; subst hcr; subst hy
      exact .inr ⟨b, p, x, hp, hg, fun _ => by have := ho'; exact ho, hq.symm⟩
    · rw [Mu.upd_other e] at hcr
      simp only [if_neg e] at hy
      by_cases e2 : c = b
      · simp [e2] at hy
      · simp only [if_neg e2] at hy
        exact .inr ⟨c, r, y, hcr, hy, id, rfl⟩

/-- What of a result that may name a block of the next number. -/
structure Out (μ : Mu) (base : Nat) (h : Hp) (w : World) (v : Value) (h' : Hp) (v' : Value) (w' : World) (μ' : Mu) : Prop where
  val : VR μ' v v'
  sim : Sim μ base h.get w μ' h'.get w'
  next : h.next ≤ h'.next
  dom : ∀ b, μ' b ≠ μ b → h.next ≤ b ∧ b < h'.next
  keep : Keeps μ h h'

theorem Out.same {h h' : Hp} {v v' : Value} {w' : World} (hv : VR μ v v') (hs : Sim μ base h.get w μ h'.get w') (hn : h'.next = h.next) (hk : Keeps μ h h') : Out μ base h w v h' v' w' μ :=
  ⟨hv, hs, by omega, fun _ hb => absurd rfl hb, hk⟩

theorem dom_upd {h h' : Hp} {p : Pl} (hn : h'.next = h.next + 1) : ∀ b, Mu.upd μ h.next p b ≠ μ b → h.next ≤ b ∧ b < h'.next := by
  intro b hb
  by_cases e : b = h.next
  · omega
  · exact absurd (Mu.upd_other e) hb

/-- A row that append has made. -/
theorem grown_BR {μ' : Mu} {cs olds news : List Value} {arr : Array Value} {e : TypeId} {c : Nat} (hw : w.heap[c]? = some (.cells arr e (0, 0))) (hc : base ≤ c)
    (h1 : All2 (VR1 μ') olds cs) {news' : List Value} (h2 : All2 (VR1 μ') news news') {rest : List Value} (harr : arr.toList = cs ++ news' ++ rest) : BR μ' base w ⟨c, 0, arr.size⟩ (.cells (olds ++ news) false) := by
  refine ⟨arr, e, (0, 0), hw, rfl, fun i v hi => ?_, fun _ => ⟨hc, fun i _ => by simp, fun _ => rfl⟩⟩
  obtain ⟨v', h3, h4⟩ := (h1.append h2).2 i v hi
  refine ⟨v', ?_, h4⟩
  rw [Nat.zero_add, ← Array.getElem?_toList, harr, List.getElem?_append, if_pos (List.getElem?_eq_some_iff.1 h3).1]
  exact h3

theorem splice_get : ∀ (vs l : List Value) (o : Nat), o + vs.length ≤ l.length → ∀ {i : Nat}, (spliceL l o vs)[i]? = if o ≤ i ∧ i < o + vs.length then vs[i - o]? else l[i]?
  | [], l, o, _, i => by simp [spliceL]; omega
  | v :: r, l, o, h, i => by
    simp only [List.length_cons] at h
    unfold spliceL
    rw [splice_get r (l.set o v) (o + 1) (by simp; omega), List.getElem?_set]
    simp only [List.length_cons]
    by_cases h1 : i = o
    · subst h1
      rw [if_neg (by omega), if_pos rfl, if_pos (by omega), if_pos (by omega)]
      simp
    · by_cases h2 : o + 1 ≤ i ∧ i < o + 1 + r.length
      · rw [if_pos h2, if_pos (by omega)]
        rw [show i - o = (i - (o + 1)) + 1 from by omega]
        simp
      · rw [if_neg h2, if_neg (fun e => h1 e.symm), if_neg (by omega)]

theorem size_zeroC (z : Array Value) (n : Nat) : (Builtin.zeroCells z n).size = n * z.size := by simp [Builtin.zeroCells]

theorem appendA_run {argTypes : Array TypeId} {ty st xt : TypeId} {args : Array Value} {s s' x x' v : Value} {h h' : Hp} (hs : appendA P st xt s x h = some (v, h'))
    (h0 : argTypes[0]? = some st) (h1 : argTypes[1]? = some xt) (ha0 : args[0]? = some s') (ha1 : args[1]? = some x') (hr : Rel μ base h.get w) (hfr0 : h.next < h'.next → μ h.next = none)
    (hsv : VR μ s s') (hx : VR μ x x') :
    ∃ v' w' μ', (Builtin.append_ argTypes ty args).run P w = .ok v' w' ∧ Out μ base h w v h' v' w' μ' := by
  unfold appendA at hs
  split at hs
  · rename_i e hu
    split at hs
    · rename_i i z hi hz
      obtain ⟨hzr, hzp⟩ := zeroA_run hz w
      have hiz : i.zero = some z := by
        unfold zeroA at hz
        simp only [hi] at hz
        split at hz
        · rename_i z0 hz0
          split at hz
          · simp at hz; subst hz; exact hz0
          · cases hz
        · cases hz
      split at hs
      · rename_i hsz
        split at hs
        · rename_i m news hsrc
          obtain ⟨news', src, hnr, hns, hnl⟩ := sourceA_run (e := e) hsrc hr hx (.inr ⟨rfl, hzp, hsz.2⟩)
          -- a new row
          have grow : ∀ (bs : Option Addr) (len cap : Nat) (olds : List Value) (olds' : Array Value), s' = .slice bs len cap → cap < len + m → len + m ≤ 4611686018427387904 → (len + m) * i.bytes ≤ 140737488355328 →
              (Builtin.firstCells i.size len (.slice bs len cap)).run P w.drew = .ok olds' w.drew → All2 (VR1 μ) olds olds'.toList → olds'.size = len * i.size →
              v = .slice (some ⟨h.next, 0, none⟩) (len + m) (unk i.size) → ∀ g0 : Gm, (h'.get = fun c => if c = h.next then some (.cells (olds ++ news) false) else g0 c) → (∀ b p x, μ b = some p → g0 b = some x → h.get b = some x) → h'.next = h.next + 1 → Keeps μ h h' → m * i.bytes ≤ 140737488355328 →
              ∃ v' w' μ', (Builtin.append_ argTypes ty args).run P w = .ok v' w' ∧ Out μ base h w v h' v' w' μ' := by
            intro bs len cap olds olds' hs' hcap h62 hby hfo hor hos hv g0 hg' hg0 hn hkeep hmb
            subst hs'
            have hfr := hfr0 (by omega)
            have hle : ∀ p, Mu.le μ (Mu.upd μ h.next p) := fun p => Mu.le_upd hfr
            obtain ⟨_, hrun⟩ := append_run (ty := ty) h0 h1 ha0 ha1 hu hi hiz hsz.2 hsz.1 hmb src
            have hrun := hrun hcap h62 hby olds' hfo
            have hgr := grow_drew_alloc w (.cells (olds' ++ news' ++ Builtin.zeroCells z.cells (grownCap w (len + m) cap e - (len + m))) e)
            have hge := grownCap_ge w (len + m) cap e
            refine ⟨_, _, Mu.upd μ h.next ⟨w.heap.size, 0, (olds' ++ news' ++ Builtin.zeroCells z.cells (grownCap w (len + m) cap e - (len + m))).size⟩, hrun, ?_, ?_, by omega, dom_upd hn, hkeep⟩
            · rw [hv]
              refine .zero (.slice (Mu.upd_same _ _ _) hge (.inl ⟨UNK0_le_unk _, ?_⟩))
              rw [unk_sub]
              simp only [Array.size_append, size_zeroC, hos, hns, hnl, hsz.2]
              rw [← Nat.add_mul, ← Nat.add_mul]
              apply Nat.le_of_eq
              simp only [Nat.zero_add]
              congr 1
              omega
            · rw [hg']
              have hrel0 : Rel μ base g0 w := hr.less hg0
              have := sim_new (x := .cells (olds ++ news) false) (p := ⟨w.heap.size, 0, _⟩) hrel0 hgr hfr rfl
                (grown_BR (rest := (Builtin.zeroCells z.cells (grownCap w (len + m) cap e - (len + m))).toList) hgr.new hr.size (hor.mono fun _ _ _ r => r.mono (hle _)) (hnr.mono fun _ _ _ r => r.mono (hle _)) (by simp))
              exact ⟨this.le, this.rel, ⟨this.fr.os, this.fr.tape, this.fr.output, this.fr.size, fun c hc hn => hgr.old c hc⟩, fun b p x hb hx => by
                rcases this.own b p x hb hx with h3 | ⟨b0, p0, x0, h3, h4, h5, h6⟩
                · exact .inl h3
                · exact .inr ⟨b0, p0, x0, h3, hg0 b0 p0 x0 h3 h4, h5, h6⟩, fun _ _ _ h => .inl h⟩
          split at hs
          · -- nothing is appended
            rename_i hm
            subst hm
            split at hs
            · rename_i bs len cap
              simp only [Option.some.injEq, Prod.mk.injEq] at hs
              obtain ⟨rfl, rfl⟩ := hs
              have hnil : news'.toList = [] := by
                apply List.eq_nil_of_length_eq_zero
                rw [Array.length_toList, hns, hnl]; omega
              have hsv' : ∃ bs' len' cap', s' = .slice bs' len' cap' ∧ len' ≤ cap' := by
                cases bs with
                | none => obtain ⟨_, _, rfl⟩ := hsv.inv_slice_nil; exact ⟨_, _, _, rfl, Nat.le_refl _⟩
                | some a =>
                  obtain ⟨b, o, sp⟩ := a
                  cases sp with
                  | none =>
                    rcases hsv.inv_slice with ⟨p, k', _, rfl, h3, _⟩ | ⟨_, _, a', _, rfl⟩
                    · exact ⟨_, _, _, rfl, h3⟩
                    · exact ⟨_, _, _, rfl, Nat.le_refl _⟩
                  | some j => exact (hsv.inv_slice_spot).elim
              obtain ⟨bs', len', cap', rfl, hlc⟩ := hsv'
              obtain ⟨hrun, _⟩ := append_run (ty := ty) h0 h1 ha0 ha1 hu hi hiz hsz.2 hsz.1 (by omega) src
              refine ⟨_, w, μ, ?_, Out.same hsv (Sim.refl hr) rfl (.refl μ _)⟩
              rw [hrun (by omega)]
              unfold apRoom
              cases bs' with
              | none => rfl
              | some a => rw [hnil]; rfl
            · cases hs
          · rename_i hm
            split at hs
            · -- onto nil
              split at hs
              · rename_i hb
                simp only [Option.some.injEq, Prod.mk.injEq] at hs
                obtain ⟨rfl, rfl⟩ := hs
                have := hsv.eq_of_plain (v := .slice none 0 0) rfl; subst this
                exact grow none 0 0 [] #[] rfl (by omega) (by omega) (by simpa using hb.1) (run_firstCells_none _ _ _ _ _) All2.nil (by simp) (by simp) h.get (by rw [get_push_fun]; simp) (fun _ _ _ _ h => h) rfl (.push μ h _) hb.1
              · cases hs
            · rename_i b o len cap
              split at hs
              · rename_i hb
                have hmb : m * i.bytes ≤ 140737488355328 := by
                  have : m * i.bytes ≤ (len + m) * i.bytes := Nat.mul_le_mul_right _ (by omega)
                  omega
                split at hs
                · -- a capacity that is not known
                  rename_i hun
                  have hun' := isUnk_iff.1 hun
                  split at hs
                  · rename_i cs hg
                    split at hs
                    · rename_i hc
                      simp only [Option.some.injEq, Prod.mk.injEq] at hs
                      obtain ⟨rfl, rfl⟩ := hs
                      have hcells : h.cells b o (len * i.size) = some ((cs.drop o).take (len * i.size)) := by
                        unfold Hp.cells Hp.row; rw [hg]; simp [hc.2.1]
                      have hbn := Hp.lt_of_get hg
                      have hget : ((h.put b none).push (.cells ((cs.drop o).take (len * i.size) ++ news) false)).get = fun c => if c = h.next then some (.cells ((cs.drop o).take (len * i.size) ++ news) false) else (h.put b none).get c := by
                        rw [get_push_fun]; rfl
                      have hless : ∀ c p x, μ c = some p → (h.put b none).get c = some x → h.get c = some x := by
                        intro c p x _ hx
                        rw [Hp.get_put _ _ _ _ hbn] at hx
                        split at hx
                        · cases hx
                        · exact hx
                      rcases hsv.inv_slice with ⟨p, k', hp, rfl, hlk, hk⟩ | ⟨rfl, hk, a', ⟨p0, hp0⟩, rfl⟩
                      · obtain ⟨olds', ho1, ho2, ho3⟩ := cells_run hcells hr hp
                        have hkeep : Keeps μ h ((h.put b none).push (.cells ((cs.drop o).take (len * i.size) ++ news) false)) := by
                          intro c hc' hn
                          rw [Hp.get_push, if_neg (by simp; omega)]
                          exact Keeps.put hp hbn c hc' hn
                        by_cases hroom : len + m ≤ k'
                        · -- in the room that there is
                          have hfr := hfr0 (Nat.lt_succ_self _)
                          have hle : ∀ p, Mu.le μ (Mu.upd μ h.next p) := fun p => Mu.le_upd hfr
                          obtain ⟨hrun, _⟩ := append_run (ty := ty) h0 h1 ha0 ha1 hu hi hiz hsz.2 hsz.1 hmb src
                          have hrun := hrun hroom
                          obtain ⟨arr, et, fr, hw1, hw2, hw3, hw4⟩ := hr.blk b p _ hp hg
                          obtain ⟨hpb, hpf, hps⟩ := hw4 rfl
                          have hN : o + p.s + k' * i.size ≤ p.N := by
                            rcases hk with ⟨_, hk⟩ | ⟨_, hk⟩
                            · rw [hc.1, unk_sub] at hk; exact hk
                            · omega
                          have hmul : (len + m) * i.size ≤ k' * i.size := Nat.mul_le_mul_right _ hroom
                          rw [Nat.add_mul] at hmul
                          have hin : ∀ j, j < news'.toList.length → o + p.s + len * i.size + j < arr.size := by
                            intro j hj
                            rw [Array.length_toList, hns, hnl] at hj
                            omega
                          have hst := run_storeCells_cells (P := P) p.c (o + p.s + len * i.size) news'.toList 0 w (fun j hj => by
                              rw [Nat.add_zero, cell_of_row w p.c _ arr et fr hw1, Array.getElem?_eq_getElem (hin j hj)]; rfl)
                            (fun j hj => by
                              simp only [World.frozen?, hw1, Nat.add_zero]
                              have := hpf _ (hin j hj)
                              simpa using this)
                            (fun v hv => by
                              obtain ⟨j, hj⟩ := List.mem_iff_getElem?.1 hv
                              rcases hnr.get j with ⟨_, e2⟩ | ⟨x, y, _, e2, r⟩
                              · rw [e2] at hj; cases hj
                              · rw [e2] at hj; simp at hj; subst hj; exact r.oneCell.2)
                          rw [Nat.add_zero] at hst
                          have hch := chg_setCells p.c et fr news'.toList (o + p.s + len * i.size) w arr hw1
                          refine ⟨.slice (some ⟨p.c, 0 + (o + p.s), none⟩) (len + m) k', w.setCells p.c (o + p.s + len * i.size) news'.toList, Mu.upd μ h.next ⟨p.c, o + p.s, p.N⟩, ?_, ?_, ?_, Nat.le_succ _, dom_upd rfl, hkeep⟩
                          · rw [hrun]
                            unfold apRoom
                            have hadd : (⟨p.c, o + p.s, none⟩ : Addr).add (len * i.size) = ⟨p.c, o + p.s + len * i.size, none⟩ := by
                              unfold Addr.add; split
                              · simp_all
                              · rfl
                            simp only [hadd, hst, Result.andThen_ok, Nat.zero_add]
                          · refine .zero (.slice (p := ⟨p.c, o + p.s, p.N⟩) (Mu.upd_same _ _ _) hroom (.inl ⟨hun', ?_⟩))
                            rw [hc.1, unk_sub]
                            simpa using hN
                          · rw [hget]
                            have hfun : (fun c => if c = h.next then some (Blk.cells ((cs.drop o).take (len * i.size) ++ news) false) else (h.put b none).get c) =
                                (fun c => if c = h.next then some (Blk.cells ((cs.drop o).take (len * i.size) ++ news) false) else if c = b then none else h.get c) := by
                              funext c; rw [Hp.get_put _ _ _ _ hbn]
                            rw [hfun]
                            refine sim_move hr hp hg rfl hfr rfl hch ⟨_, et, fr, hch.at_, by simp [length_splice]; exact hw2, ?_, fun _ => ⟨hpb, by simpa [length_splice] using hpf, fun hl => by rw [List.length_append, List.length_take, List.length_drop, Nat.min_eq_left (by omega)] at hl; exact absurd hl hc.2.2⟩⟩ rfl (Nat.le_add_left _ _) (pre_splice hw1 hch.at_ (by omega))
                            intro j v hj
                            have hlo : ((cs.drop o).take (len * i.size)).length = len * i.size := by
                              rw [List.length_take, List.length_drop]; omega
                            simp only [List.getElem?_toArray]
                            have hlsz : o + p.s + len * i.size + news'.toList.length ≤ arr.toList.length := by
                              rw [Array.length_toList, Array.length_toList, hns, hnl]; omega
                            rw [splice_get _ _ _ hlsz]
                            rw [List.getElem?_append] at hj
                            split at hj
                            · rename_i hlt
                              rw [hlo] at hlt
                              rw [if_neg (by omega)]
                              rw [List.getElem?_take, if_pos hlt, List.getElem?_drop] at hj
                              obtain ⟨v', h3, h4⟩ := hw3 (o + j) v hj
                              exact ⟨v', by rw [Array.getElem?_toList, ← h3]; congr 1; omega, h4.mono (hle _)⟩
                            · rename_i hge
                              rw [hlo] at hge hj
                              obtain ⟨v', h3, h4⟩ := hnr.2 _ v hj
                              have hlt2 := (List.getElem?_eq_some_iff.1 h3).1
                              rw [if_pos (by omega)]
                              exact ⟨v', by rw [← h3]; congr 1; omega, h4.mono (hle _)⟩
                        · -- no room
                          exact grow _ len k' _ olds'.toArray rfl (by omega) hb.2 hb.1 (run_firstCells_some w.drew i.size len _ len k' olds' ho2 (by simpa using ho3)) (by simpa using ho1) (by simpa using ho2)
                            (by rw [hc.1]) _ hget hless rfl hkeep hmb
                      · have hkeep : Keeps μ h ((h.put b none).push (.cells ((cs.drop o).take (0 * i.size) ++ news) false)) := by
                          intro c hc' hn
                          rw [Hp.get_push, if_neg (by simp; omega)]
                          exact Keeps.put hp0 hbn c hc' hn
                        refine grow _ 0 0 [] #[] rfl (by omega) hb.2 hb.1 (run_firstCells_some w.drew i.size 0 a' 0 0 [] (by simp) (by simp)) All2.nil (by simp) (by rw [hc.1]) _ (by rw [hget]; simp) hless rfl hkeep hmb
                    · cases hs
                  · cases hs
                · rename_i hkn
                  have hkn' := isUnk_false.1 (by simpa using hkn)
                  split at hs
                  · -- in the room that there is
                    rename_i hroom
                    split at hs
                    · rename_i cs hg
                      split at hs
                      · rename_i hc
                        simp only [Option.some.injEq, Prod.mk.injEq] at hs
                        obtain ⟨rfl, rfl⟩ := hs
                        rcases hsv.inv_slice with ⟨p, k', hp, rfl, hlk, hk⟩ | ⟨rfl, hk, a', ⟨p0, hp0⟩, rfl⟩
                        · have hkk : cap = k' := by
                            rcases hk with ⟨hk, _⟩ | ⟨hk, _⟩
                            · omega
                            · exact hk
                          subst hkk
                          obtain ⟨hrun, _⟩ := append_run (ty := ty) h0 h1 ha0 ha1 hu hi hiz hsz.2 hsz.1 hmb src
                          have hrun := hrun hroom
                          obtain ⟨w', h3, h4⟩ := sim_splice (P := P) hr hp hg (o := o + len * i.size) (by rw [hnl]; rw [Nat.add_mul] at hc; omega) hnr
                          refine ⟨_, w', μ, ?_, Out.same (.zero (.slice hp hroom (.inr ⟨rfl, hkn'⟩))) (by rw [get_put_fun (Hp.lt_of_get hg)]; exact h4) rfl (.put hp (Hp.lt_of_get hg))⟩
                          rw [hrun]
                          unfold apRoom
                          simp only [add_rel, h3, Result.andThen_ok]
                        · omega
                      · cases hs
                    · cases hs
                  · -- no room
                    rename_i hroom
                    split at hs
                    · rename_i olds hcells
                      simp only [Option.some.injEq, Prod.mk.injEq] at hs
                      obtain ⟨rfl, rfl⟩ := hs
                      have hget := get_push_fun h (.cells (olds ++ news) false)
                      rcases hsv.inv_slice with ⟨p, k', hp, rfl, hlk, hk⟩ | ⟨rfl, hk, a', ⟨p0, hp0⟩, rfl⟩
                      · have hkk : cap = k' := by
                          rcases hk with ⟨hk, _⟩ | ⟨hk, _⟩
                          · omega
                          · exact hk
                        subst hkk
                        obtain ⟨olds', ho1, ho2, ho3⟩ := cells_run hcells hr hp
                        exact grow _ len cap _ olds'.toArray rfl (by omega) hb.2 hb.1 (run_firstCells_some w.drew i.size len _ len cap olds' ho2 (by simpa using ho3)) (by simpa using ho1) (by simpa using ho2)
                          rfl _ hget (fun _ _ _ _ h => h) rfl (.push μ h _) hmb
                      · have hol : olds = [] := by
                          unfold Hp.cells at hcells
                          split at hcells
                          · split at hcells
                            · simp at hcells; exact hcells
                            · cases hcells
                          · cases hcells
                        subst hol
                        exact grow _ 0 0 [] #[] rfl (by omega) hb.2 hb.1 (run_firstCells_some w.drew i.size 0 a' 0 0 [] (by simp) (by simp)) All2.nil (by simp) rfl _ hget (fun _ _ _ _ h => h) rfl (.push μ h _) hmb
                    · cases hs
              · cases hs
            · cases hs
        · cases hs
      · cases hs
    · cases hs
  · cases hs
end
end Go.Abs
end
