/-
  KV: kinds of data, functions of immutable data: contracts' forms.
-/
import Derived.Test.YtddejgkfgnokgaaFw6
import Derived.Shelf.SlIter.Nil
import Derived.Shelf.SortM.Plain
import Derived.Shelf.SortM.SortNone
import Derived.Ground.GgzProg
import Derived.Ground.SlgmProg
import Derived.Shelf.Spec.SlicesGrow
import Derived.Ground.Names8Prog
section
namespace Go.Proofs.Ytddejgkfgnokgaa
open Go.RowKit Go.Abs Go
set_option maxRecDepth 100000
noncomputable section
def bodyS (P : Program) (f : Nat) : Code := ((P.funcs[f]?).bind (·.body)).getD .skip
/-- A function's text against what is said of it. -/
def runP (S : Sy) (C : Con) (n : Nat) (LS : Loops) (F : PF) (f : Nat) (fn : Func) (d : F.D) : Prop := lawV S Try.prog C (inCallF 60) n LS fn (bodyS Try.prog f) (F.args d) (hpOf []) (F.done d)
def noL : Loops := fun _ => none
def zS : Value := .string ⟨#[]⟩
def zP : Value := .agg #[.string ⟨#[]⟩, .string ⟨#[]⟩]
def zI : Value := .int .i64 0
def cP : Cod (List Value) := cL zP rfl
def cPr : Cod (ByteArray × ByteArray × Unit) := cA (.cons cS rfl (.cons cS rfl .nil))
def fnV (f : FuncId) : Value := .func (.func f) #[] #[]
theorem raw_fn (f : FuncId) (deep : Value → Value → Option (List Value)) (u : Value) : rawV deep (fnV f) u = if vbeq1 (fnV f) u then some (fnV f) else none := rfl
def cF (f : FuncId) (h : vbeq1 (fnV f) (fnV f) = true) : Cod Unit := cK (fnV f) (by rw [raw_fn, if_pos h]) (fun deep u x h => by rw [raw_fn] at h; split at h <;> simp_all) rfl
/-- Strings held against one another: the runtime's own function. -/
def cmpC (cmp : ByteArray → ByteArray → Int) (args : List Value) (h : Hp) (K : Value → Hp → Prop) : Prop :=
  match args with
  | [a, b] => match den a, den b with
    | .string x, .string y => K (mk (.int .i64 (cmp x y))) h
    | _, _ => False
  | _ => False
def LIM : Nat := 1000000
theorem raw_nil (deep : Value → Value → Option (List Value)) (u : Value) : rawV deep (.slice none 0 0) u = if vbeq1 (.slice none 0 0) u then some (.slice none 0 0) else none := rfl
/-- nil. -/
def cN : Cod Unit := cK (.slice none 0 0) (by rw [raw_nil, if_pos (show vbeq1 (.slice none 0 0) (.slice none 0 0) = true from rfl)]) (fun deep u x h => by rw [raw_nil] at h; split at h <;> simp_all) rfl
def cI64 : Cod Int := cI .i64
/-- slices.Grow of nil. -/
def growP (S : Sy) (z : Value) : PF := pf (.cons cN (.cons cI64 .nil)) (fun d => S.ile 0 d.2.1 ∧ S.ile d.2.1 4000000) [dsl z []] (fun _ => [dsl z []]) true
def cIs : Cod (List Value) := cL zI rfl
def cSs : Cod (List Value) := cL zS rfl
def cYs : Cod (List Value) := cL (.int .u8 0) rfl
def cPss : Cod (List Value) := cL (dsl zP []) rfl
/-- Elements. -/
def zPs : Value := dsl zP []
def kP (xs : List Value) (i : Nat) : ByteArray := dstr (fld (xs.getD i zP) 0)
def vP (xs : List Value) (i : Nat) : ByteArray := dstr (fld (xs.getD i zP) 1)
def eI (xs : List Value) (i : Nat) : Int := dint (xs.getD i zI)
def eB (xs : List Value) (i : Nat) : Int := dint (xs.getD i (.int .u8 0))
def eS (xs : List Value) (i : Nat) : ByteArray := dstr (xs.getD i zS)
def eL (xs : List Value) (i : Nat) : List Value := dels (xs.getD i zPs)
/-- What the functions come to: letters. -/
structure KvF where
  cmp : ByteArray → ByteArray → Int
  bs : List Value → ByteArray → Int
  fd : List Value → ByteArray → Bool
  may : ByteArray → ByteArray → Bool
  rmay : ByteArray → ByteArray → Bool
  right : List Value → Bool
  rright : List Value → Bool
  same : List Value → List Value → Bool
  sameb : List Value → List Value → Bool
  get : List Value → ByteArray → ByteArray
  set : List Value → ByteArray → ByteArray → List Value
  setok : List Value → ByteArray → ByteArray → Bool
  del : List Value → ByteArray → List Value
  rng : List Value → ByteArray → ByteArray → List Value
  rset : List Value → ByteArray → ByteArray → List Value
  rdel : List Value → ByteArray → List Value
  rfirst : List Value → ByteArray → Int
  leaf : ByteArray → ByteArray → List Value
  key : Int → ByteArray
  txt : Int → ByteArray
  pairs : List Value → List Value
  cat : List Value → List Value
  one : Int → List Value
  text : List Value → List Value
  wi : Int → Int → Int → Int
variable (S : Sy) (g : KvF)
def mayP : PF := pf (.cons cPr .nil) (fun _ => True) [.bool false] fun d => [mkb (g.may d.1.1 d.1.2.1)]
def rmayP : PF := pf (.cons cPr .nil) (fun _ => True) [.bool false] fun d => [mkb (g.rmay d.1.1 d.1.2.1)]
def rightP : PF := pf (.cons cP .nil) (fun d => S.nle (S.len d.1) LIM) [.bool false] fun d => [mkb (g.right d.1)]
def rrightP : PF := pf (.cons cP .nil) (fun d => S.nle (S.len d.1) LIM) [.bool false] fun d => [mkb (g.rright d.1)]
def sameP : PF := pf (.cons cP (.cons cP .nil)) (fun d => S.nle (S.len d.1) LIM) [.bool false] fun d => [mkb (g.same d.1 d.2.1)]
def samebP : PF := pf (.cons cYs (.cons cYs .nil)) (fun d => S.nle (S.len d.1) LIM) [.bool false] fun d => [mkb (g.sameb d.1 d.2.1)]
def getP : PF := pf (.cons cP (.cons cS .nil)) (fun d => S.nle (S.len d.1) LIM) [zS, .bool false] fun d => [mk (.string (g.get d.1 d.2.1)), mkb (g.fd d.1 d.2.1)]
def firstP : PF := pf (.cons cP (.cons cS .nil)) (fun d => S.nle (S.len d.1) LIM) [zI] fun d => [mk (.int .i64 (g.bs d.1 d.2.1))]
def setP : PF := pf (.cons cP (.cons cPr .nil)) (fun d => S.nle (S.len d.1) LIM) [dsl zP [], .bool false] fun d => [dsl zP (g.set d.1 d.2.1.1 d.2.1.2.1), mkb (g.setok d.1 d.2.1.1 d.2.1.2.1)]
def delP : PF := pf (.cons cP (.cons cS .nil)) (fun d => S.nle (S.len d.1) LIM) [dsl zP []] fun d => [dsl zP (g.del d.1 d.2.1)]
def rngP : PF := pf (.cons cP (.cons cS (.cons cS .nil))) (fun d => S.nle (S.len d.1) LIM) [dsl zP []] fun d => [dsl zP (g.rng d.1 d.2.1 d.2.2.1)]
def rsetP : PF := pf (.cons cP (.cons cPr .nil)) (fun d => S.nle (S.len d.1) LIM) [dsl zP []] fun d => [dsl zP (g.rset d.1 d.2.1.1 d.2.1.2.1)]
def rdelP : PF := pf (.cons cP (.cons cS .nil)) (fun d => S.nle (S.len d.1) LIM) [dsl zP []] fun d => [dsl zP (g.rdel d.1 d.2.1)]
def rfirstP : PF := pf (.cons cP (.cons cS .nil)) (fun d => S.nle (S.len d.1) LIM) [zI] fun d => [mk (.int .i64 (g.rfirst d.1 d.2.1))]
def keyP : PF := pf (.cons cI64 .nil) (fun d => inI S d.1) [zS] fun d => [mk (.string (g.key d.1))]
def txtP : PF := pf (.cons cI64 .nil) (fun d => inI S d.1) [zS] fun d => [mk (.string (g.txt d.1))]
structure IL where
  i : Int
structure NIL where
  n : Int
  i : Int
structure BsL where
  n : Int
  i : Int
  j : Int
def loop1 (L : LSpec) (b : Nat) : Loops := fun id => if id = b then some [L] else none
/-- A walk over all of a slice: slots a, b hold it, n its length, i the number. -/
def walkLs (nt a b n i : Nat) (xs : List Value) (I : NIL → Prop) (m : NIL → Nat) : Loops := loop1 { D := NIL, sh := ⟨slotsOf nt [(a, .one (.zero (.deep zP))), (b, .one (.zero (.deep zP))), (n, .one (.zero .hole)), (i, .one (.zero .hole))], []⟩, rho := fun _ => [], fills := fun d => [.dl xs, .dl xs, .val (.int .i64 d.n), .val (.int .i64 d.i)], I := I, m := m } 0
def sameLs (z : Value) (xs ys : List Value) (I : IL → Prop) (m : IL → Nat) : Loops := loop1 { D := IL, sh := ⟨slotsOf 26 [(0, .one (.zero (.deep z))), (1, .one (.zero (.deep z))), (5, .one (.zero .hole))], []⟩, rho := fun _ => [], fills := fun d => [.dl xs, .dl ys, .val (.int .i64 d.i)], I := I, m := m } 0
def rfirstLs (xs : List Value) (k : ByteArray) (I : IL → Prop) (m : IL → Nat) : Loops := loop1 { D := IL, sh := ⟨slotsOf 22 [(0, .one (.zero (.deep zP))), (1, .one (.zero .hole)), (5, .one (.zero .hole))], []⟩, rho := fun _ => [], fills := fun d => [.dl xs, .val (.string k), .val (.int .i64 d.i)], I := I, m := m } 0
structure DelL where
  n : Int
  i : Int
  r : List Value
def rdelSh : Shape := ⟨slotsOf 24 [(1, .one (.zero .hole)), (5, .one (.zero (.osl 0 zP))), (8, .one (.zero (.deep zP))), (9, .one (.zero .hole)), (10, .one (.zero .hole))], [some .tok]⟩
def rdelLs (xs : List Value) (k : ByteArray) (I : DelL → Prop) (m : DelL → Nat) : Loops := loop1 { D := DelL, sh := rdelSh, rho := rdelSh.find 0, fills := fun d => [.val (.string k), .dl d.r, .dl xs, .val (.int .i64 d.n), .val (.int .i64 d.i)], I := I, m := m } 0
def catP : PF := pf (.cons cPss .nil) (fun d => S.nle (S.len d.1) 3 ∧ ∀ i, S.nlt i (S.len d.1) → S.nle (S.len (S.dels (S.get (dsl zP []) d.1 i))) LIM) [dsl zP []] fun d => [dsl zP (g.cat d.1)]
def cloneP : PF := pf (.cons cP .nil) (fun d => S.nle (S.len d.1) LIM) [dsl zP []] (fun d => [dsl zP d.1]) true
def oneP : PF := pf (.cons cI64 .nil) (fun d => S.ile 0 d.1 ∧ S.ile d.1 1099511627775) [dsl (.int .u8 0) []] fun d => [dsl (.int .u8 0) (g.one d.1)]
def textP : PF := pf (.cons cSs .nil) (fun d => S.nle (S.len d.1) 2 ∧ ∀ i, S.nlt i (S.len d.1) → S.nle (S.slen (S.dstr (S.get zS d.1 i))) LIM) [dsl (.int .u8 0) []] fun d => [dsl (.int .u8 0) (g.text d.1)]
def leafP : PF := pf (.cons cPr .nil) (fun d => S.nle (S.slen d.1.1) LIM ∧ S.nle (S.slen d.1.2.1) LIM) [dsl (.int .u8 0) []] fun d => [dsl (.int .u8 0) (g.leaf d.1.1 d.1.2.1)]
structure CatA where
  s : Int
  n : Int
  i : Int
structure CatB where
  r : List Value
  n : Int
  i : Int
def catSh : Shape := ⟨slotsOf 36 [(6, .one (.zero (.osl 0 zP))), (25, .one (.zero (.deep (dsl zP [])))), (26, .one (.zero .hole)), (27, .one (.zero .hole))], [some .tok]⟩
def catLs (xss : List Value) (I : CatA → Prop) (m : CatA → Nat) (J : CatB → Prop) (l : CatB → Nat) : Loops := fun id => if id = 0 then some [{ D := CatA, sh := ⟨slotsOf 36 [(0, .one (.zero (.deep (dsl zP [])))), (3, .one (.zero .hole)), (9, .one (.zero (.deep (dsl zP [])))), (10, .one (.zero .hole)), (11, .one (.zero .hole))], []⟩, rho := fun _ => [], fills := fun d => [.dl xss, .val (.int .i64 d.s), .dl xss, .val (.int .i64 d.n), .val (.int .i64 d.i)], I := I, m := m }] else
  if id = 2 then some [{ D := CatB, sh := catSh, rho := catSh.find 0, fills := fun d => [.dl d.r, .dl xss, .val (.int .i64 d.n), .val (.int .i64 d.i)], I := J, m := l }] else none
structure OneL where
  n : Int
  r : List Value
def oneSh : Shape := ⟨slotsOf 26 [(0, .one (.zero .hole)), (3, .one (.zero (.osl 0 (.int .u8 0))))], [some .tok]⟩
def oneLs (I : OneL → Prop) (m : OneL → Nat) : Loops := loop1 { D := OneL, sh := oneSh, rho := oneSh.find 0, fills := fun d => [.val (.int .i64 d.n), .dl d.r], I := I, m := m } 0
def textSh : Shape := ⟨slotsOf 21 [(3, .one (.zero (.osl 0 (.int .u8 0)))), (6, .one (.zero (.deep zS))), (7, .one (.zero .hole)), (8, .one (.zero .hole))], [some .tok]⟩
def textLs (xs : List Value) (I : CatB → Prop) (m : CatB → Nat) : Loops := loop1 { D := CatB, sh := textSh, rho := textSh.find 0, fills := fun d => [.dl d.r, .dl xs, .val (.int .i64 d.n), .val (.int .i64 d.i)], I := I, m := m } 0
def withinCon : Con := conL [(16, withinC S)]
def playsP : PF := pf (.cons cIs (.cons cP .nil)) (fun _ => True) [.bool false] fun _ => [.bool true]
structure PlL where
  i : Int
  a : List Value
  b : List Value
def playsLs (xs ps : List Value) (I : PlL → Prop) (m : PlL → Nat) : Loops := loop1 { D := PlL, sh := ⟨slotsOf 165 [(0, .one (.zero (.deep zI))), (1, .one (.zero (.deep zP))), (5, .one (.zero (.deep zP))), (6, .one (.zero (.deep zP))), (7, .one (.zero .hole))], []⟩, rho := fun _ => [], fills := fun d => [.dl xs, .dl ps, .dl d.a, .dl d.b, .val (.int .i64 d.i)], I := I, m := m } 0
def pairsP : PF := pf (.cons cIs .nil) (fun d => ∀ i, S.nlt i (S.len d.1) → inI S (S.dint (S.get zI d.1 i))) [dsl zP []] fun d => [dsl zP (g.pairs d.1)]
structure PaL where
  i : Int
  es : List (Value × Value)
structure PaM where
  r : List Value
  n : Int
  i : Int
  es : List (Value × Value)
def pairsSh : Shape := ⟨slotsOf 54 [(0, .one (.zero (.deep zI))), (3, .one (.zero (.map 0))), (4, .one (.zero .hole))], [some (.smap zS zS)]⟩
def pairsSh2 : Shape := ⟨slotsOf 54 [(3, .one (.zero (.map 0))), (5, .one (.zero (.osl 1 zP))), (33, .one (.zero (.deep zS))), (34, .one (.zero .hole)), (35, .one (.zero .hole))], [some (.smap zS zS), some .tok]⟩
def pairsLs (xs ks : List Value) (I : PaL → Prop) (m : PaL → Nat) (J : PaM → Prop) (q : PaM → Nat) : Loops := fun id =>
  if id = 0 then some [{ D := PaL, sh := pairsSh, rho := pairsSh.find 0, fills := fun d => [.dl xs, .val (.int .i64 d.i), .me d.es], I := I, m := m }] else
  if id = 2 then some [{ D := PaM, sh := pairsSh2, rho := pairsSh2.find 0, fills := fun d => [.dl d.r, .dl ks, .val (.int .i64 d.n), .val (.int .i64 d.i), .me d.es], I := J, m := q }] else none
def rangesP : PF := pf (.cons cIs (.cons cI64 (.cons cI64 (.cons cI64 (.cons cP .nil))))) (fun _ => True) [.bool false] fun _ => [.bool true]
structure RgA where
  j : Int
  n : Int
  i : Int
structure RgC where
  n : Int
  i : Int
  a : Int
  m : Int
  e : Int
def rangesLs (ps l r : List Value) (k1 k2 k3 : ByteArray) (I : RgA → Prop) (m : RgA → Nat) (J : NIL → Prop) (q : NIL → Nat) (G : RgC → Prop) (w : RgC → Nat) : Loops := fun id =>
  if id = 0 then some [{ D := RgA, sh := ⟨slotsOf 144 [(4, .one (.zero (.deep zP))), (11, .one (.zero (.deep zP))), (12, .one (.zero .hole)), (13, .one (.zero .hole)), (14, .one (.zero .hole)), (15, .one (.zero (.deep zP))), (16, .one (.zero .hole)), (34, .one (.zero (.deep zP))), (35, .one (.zero .hole)), (36, .one (.zero .hole))], []⟩, rho := fun _ => [], fills := fun d => [.dl ps, .dl l, .val (.string k1), .val (.string k2), .val (.string k3), .dl r, .val (.int .i64 d.j), .dl l, .val (.int .i64 d.n), .val (.int .i64 d.i)], I := I, m := m }] else
  if id = 2 then some [{ D := NIL, sh := ⟨slotsOf 144 [(4, .one (.zero (.deep zP))), (11, .one (.zero (.deep zP))), (99, .one (.zero .hole)), (100, .one (.zero .hole))], []⟩, rho := fun _ => [], fills := fun d => [.dl ps, .dl l, .val (.int .i64 d.n), .val (.int .i64 d.i)], I := J, m := q }] else
  if id = 4 then some [{ D := RgC, sh := ⟨slotsOf 144 [(4, .one (.zero (.deep zP))), (11, .one (.zero (.deep zP))), (19, .one (.zero .hole)), (99, .one (.zero .hole)), (100, .one (.zero .hole)), (104, .one (.zero .hole)), (105, .one (.zero .hole))], []⟩, rho := fun _ => [], fills := fun d => [.dl ps, .dl l, .val (.int .i64 d.a), .val (.int .i64 d.n), .val (.int .i64 d.i), .val (.int .i64 d.m), .val (.int .i64 d.e)], I := G, m := w, gh := some fun d => [.int .i64 d.a, .int .i64 d.n, .int .i64 d.i] }] else none
/-- Within, of any bounds. -/
def withinP : PF := pf (.cons cI64 (.cons cI64 (.cons cI64 .nil))) (fun d => inI S d.1 ∧ S.ile (-1000000000000) d.2.1 ∧ S.ile d.2.1 d.2.2.1 ∧ S.ile d.2.2.1 2000000000000) [zI] fun d => [mk (.int .i64 (g.wi d.1 d.2.1 d.2.2.1))]
structure OrA where
  tu : List Value
  i : Int
structure OrB where
  x : List Value
  tu : List Value
  n : Int
  i : Int
structure OrC where
  x : List Value
  y : List Value
  f : List Value
  i : Int
def orderLs (os l : List Value) (n : Int) (I : OrA → Prop) (m : OrA → Nat) (J : OrB → Prop) (q : OrB → Nat) (G : OrC → Prop) (w : OrC → Nat) : Loops := fun id =>
  if id = 0 then some [{ D := OrA, sh := ⟨slotsOf 159 [(1, .one (.zero (.deep zI))), (2, .one (.zero .hole)), (7, .one (.zero (.deep zP))), (8, .one (.zero (.deep zP))), (9, .one (.zero .hole))], []⟩, rho := fun _ => [], fills := fun d => [.dl os, .val (.int .i64 n), .dl l, .dl d.tu, .val (.int .i64 d.i)], I := I, m := m }] else
  if id = 2 then some [{ D := OrB, sh := ⟨slotsOf 159 [(2, .one (.zero .hole)), (7, .one (.zero (.deep zP))), (11, .one (.zero (.deep zP))), (62, .one (.zero (.deep zP))), (63, .one (.zero .hole)), (64, .one (.zero .hole))], []⟩, rho := fun _ => [], fills := fun d => [.val (.int .i64 n), .dl l, .dl d.x, .dl d.tu, .val (.int .i64 d.n), .val (.int .i64 d.i)], I := J, m := q }] else
  if id = 4 then some [{ D := OrC, sh := ⟨slotsOf 159 [(2, .one (.zero .hole)), (7, .one (.zero (.deep zP))), (11, .one (.zero (.deep zP))), (14, .one (.zero (.deep zP))), (16, .one (.zero (.deep zP))), (89, .one (.zero .hole))], []⟩, rho := fun _ => [], fills := fun d => [.val (.int .i64 n), .dl l, .dl d.x, .dl d.y, .dl d.f, .val (.int .i64 d.i)], I := G, m := w }] else none
def orderP : PF := pf (.cons cIs (.cons cIs (.cons cI64 .nil))) (fun _ => True) [.bool false] fun _ => [.bool true]
end
end Go.Proofs.Ytddejgkfgnokgaa
end
section
namespace Go.Proofs.Ytddejgkfgnokgaa
open Go.RowKit Go.Abs Go
set_option maxRecDepth 100000
noncomputable section
/-- An object's function's text against what is said of it. -/
def runW (S : Sy) (C : Con) (n : Nat) (LS : Loops) (F : OF) (f : Nat) (fn : Func) (d : FC F.ts) : Prop := runO S Try.prog C (inCallF 60) n LS F fn (bodyS Try.prog f) d
def zY : Value := .int .u8 0
/-- What the functions come to: letters. -/
structure StF where
  one : Int → List Value
  put : List Value → List Value
  numn : List Value → Bool → Int
  numr : List Value → Bool → List Value
  numb : List Value → Bool → Bool
  rtok : ByteArray → Int
  rrew : ByteArray → Int
  rok : ByteArray → Bool
  rcd : Int → Int → ByteArray
  rput : Int → List Value
  rrcd : Int → Int → ByteArray
  nval : ByteArray → Int
  nlen : ByteArray → Int
  qtok : ByteArray → Int
  qrew : ByteArray → Int
  qok : ByteArray → Bool
  bck : List Value → Int
  bok : List Value → Bool
  rbck : List Value → Int
  rbok : List Value → Bool
  stk : Int → List Value → ByteArray → Int → Int → List Value
  ster : Int → List Value → ByteArray → Int → Int → Int
  rstk : Int → List Value → ByteArray → Int → Int → List Value
  rster : Int → List Value → ByteArray → Int → Int → Int
  okl : List Value → Prop
  pick : List Value → Int → Int
variable (S : Sy) (g : KvF) (t : StF)
/-- vint.one of any number. -/
def one1P : PF := pf (.cons cI64 .nil) (fun d => inI S d.1) [dsl zY []] fun d => [dsl zY (t.one d.1)]
/-- vint.Put of few numbers. -/
def putP : PF := pf (.cons cIs .nil) (fun d => S.nle (S.len d.1) LIM ∧ ∀ i, S.nlt i (S.len d.1) → inI S (S.dint (S.get zI d.1 i))) [dsl zY []] fun d => [dsl zY (t.put d.1)]
def rdrB : SB := .cells [.zero (.deep zY), .zero .boo] false
def readO : OF := ⟨[.dl], ⟨[some (.one (.zero (.deep zY)))], []⟩, fun d => S.nle (S.len d.1) 4000000, [.one (.zero (.ptr 0 0))], [some rdrB], fun d => [.dl d.1, .val (.bool false)]⟩
def numO : OF := ⟨[.dl, .boo], ⟨[some (.one (.zero (.ptr 0 0)))], [some rdrB]⟩, fun _ => True, [.one (.zero .hole)], [some rdrB], fun d => [.val (.int .i64 (t.numn d.1 d.2.1)), .dl (t.numr d.1 d.2.1), .val (.bool (t.numb d.1 d.2.1))]⟩
structure NuL where
  n : Int
  s : Int
  b : List Value
  bad : Bool
def numSh : Shape := ⟨slotsOf 44 [(0, .one (.zero (.ptr 0 0))), (3, .one (.zero .hole)), (4, .one (.zero .hole))], [some rdrB]⟩
def numLs (I : NuL → Prop) (m : NuL → Nat) : Loops := loop1 { D := NuL, sh := numSh, rho := numSh.find 1, fills := fun d => [.val (.int .i64 d.n), .val (.int .i64 d.s), .dl d.b, .val (.bool d.bad)], I := I, m := m } 0
def putSh : Shape := ⟨slotsOf 18 [(3, .one (.zero (.osl 0 zY))), (6, .one (.zero (.deep zI))), (7, .one (.zero .hole)), (8, .one (.zero .hole))], [some .tok]⟩
def putLs (xs : List Value) (I : CatB → Prop) (m : CatB → Nat) : Loops := loop1 { D := CatB, sh := putSh, rho := putSh.find 0, fills := fun d => [.dl d.r, .dl xs, .val (.int .i64 d.n), .val (.int .i64 d.i)], I := I, m := m } 0
/-- stake.Read. -/
def rdP : PF := pf (.cons cS .nil) (fun d => S.nle (S.slen d.1) 4000000) [zI, zI, .bool false] fun d => [mk (.int .i64 (t.rtok d.1)), mk (.int .i64 (t.rrew d.1)), mkb (t.rok d.1)]
/-- stake.Record. -/
def rcdP : PF := pf (.cons cI64 (.cons cI64 .nil)) (fun d => inI S d.1 ∧ inI S d.2.1) [zS] fun d => [mk (.string (t.rcd d.1 d.2.1))]
/-- affiantref1.Put of a number that is so great at most. -/
def rputP (k : Int) : PF := pf (.cons cI64 .nil) (fun d => inI S d.1 ∧ S.ile d.1 k) [dsl zY []] (fun d => [dsl zY (t.rput d.1)]) true
def rrcdP : PF := pf (.cons cI64 (.cons cI64 .nil)) (fun d => inI S d.1 ∧ inI S d.2.1) [zS] fun d => [mk (.string (t.rrcd d.1 d.2.1))]
/-- affiantref10.number. -/
def nmP : PF := pf (.cons cS .nil) (fun d => S.nle (S.slen d.1) 9223372036854775807) [zI, zI] fun d => [mk (.int .i64 (t.nval d.1)), mk (.int .i64 (t.nlen d.1))]
structure NmL where
  n : Int
  i : Int
def nmLs (s : ByteArray) (I : NmL → Prop) (m : NmL → Nat) : Loops := loop1 { D := NmL, sh := ⟨slotsOf 46 [(0, .one (.zero .hole)), (4, .one (.zero .hole)), (5, .one (.zero .hole))], []⟩, rho := fun _ => [], fills := fun d => [.val (.string s), .val (.int .i64 d.n), .val (.int .i64 d.i)], I := I, m := m } 0
def qrdP : PF := pf (.cons cS .nil) (fun d => S.nle (S.slen d.1) 9223372036854775807) [zI, zI, .bool false] fun d => [mk (.int .i64 (t.qtok d.1)), mk (.int .i64 (t.qrew d.1)), mkb (t.qok d.1)]
/-- Backing. -/
def valsOk (d : List Value) : Prop := S.nle (S.len d) LIM ∧ ∀ i, S.nlt i (S.len d) → S.nle (S.slen (S.dstr (S.fld (S.get zP d i) 1))) 4000000
def bckP : PF := pf (.cons cP .nil) (fun d => valsOk S d.1) [zI, .bool false] fun d => [mk (.int .i64 (t.bck d.1)), mkb (t.bok d.1)]
def valsOk2 (d : List Value) : Prop := S.nle (S.len d) LIM ∧ ∀ i, S.nlt i (S.len d) → S.nle (S.slen (S.dstr (S.fld (S.get zP d i) 1))) 9223372036854775807
def rbckP : PF := pf (.cons cP .nil) (fun d => valsOk2 S d.1) [zI, .bool false] fun d => [mk (.int .i64 (t.rbck d.1)), mkb (t.rbok d.1)]
structure BkL where
  a : Int
  n : Int
  i : Int
def bckLs (nt : Nat) (xs : List Value) (I : BkL → Prop) (m : BkL → Nat) : Loops := loop1 { D := BkL, sh := ⟨slotsOf nt [(4, .one (.zero .hole)), (10, .one (.zero (.deep zP))), (11, .one (.zero .hole)), (12, .one (.zero .hole))], []⟩, rho := fun _ => [], fills := fun d => [.val (.int .i64 d.a), .dl xs, .val (.int .i64 d.n), .val (.int .i64 d.i)], I := I, m := m } 0
/-- Staking transactions. -/
def stPre (t : StF) (d : List Value) (s : ByteArray) (a b : Int) : Prop := t.okl d ∧ S.nle (S.slen s) LIM ∧ inI S a ∧ inI S b
def delgP : PF := pf (.cons cP (.cons cS (.cons cI64 .nil))) (fun d => stPre S t d.1 d.2.1 d.2.2.1 0) [dsl zP [], zI] fun d => [dsl zP (t.stk 1 d.1 d.2.1 d.2.2.1 0), mk (.int .i64 (t.ster 1 d.1 d.2.1 d.2.2.1 0))]
def rwdP : PF := pf (.cons cP (.cons cS (.cons cI64 .nil))) (fun d => stPre S t d.1 d.2.1 d.2.2.1 0) [dsl zP [], zI] fun d => [dsl zP (t.stk 2 d.1 d.2.1 d.2.2.1 0), mk (.int .i64 (t.ster 2 d.1 d.2.1 d.2.2.1 0))]
def slaP : PF := pf (.cons cP (.cons cS (.cons cI64 (.cons cI64 .nil)))) (fun d => stPre S t d.1 d.2.1 d.2.2.1 d.2.2.2.1) [dsl zP [], zI] fun d => [dsl zP (t.stk 3 d.1 d.2.1 d.2.2.1 d.2.2.2.1), mk (.int .i64 (t.ster 3 d.1 d.2.1 d.2.2.1 d.2.2.2.1))]
def rstkP : PF := pf (.cons cP (.cons cI64 (.cons cS (.cons cI64 (.cons cI64 .nil))))) (fun d => stPre S t d.1 d.2.2.1 d.2.2.2.1 d.2.2.2.2.1 ∧ S.ile 1 d.2.1 ∧ S.ile d.2.1 3) [dsl zP [], zI] fun d => [dsl zP (t.rstk d.2.1 d.1 d.2.2.1 d.2.2.2.1 d.2.2.2.2.1), mk (.int .i64 (t.rster d.2.1 d.1 d.2.2.1 d.2.2.2.1 d.2.2.2.2.1))]
end
end Go.Proofs.Ytddejgkfgnokgaa
end
section
namespace Go.Proofs.Ytddejgkfgnokgaa
open Go.RowKit Go.Abs Go
noncomputable section
structure MiF where
  idx : List Value → Int
  recs : List Value → List Value
  te : Int → Int → List Value → Int
  th : Int → Int → List Value → Int
  tb : Int → Int → Int → List Value → Int
  tr : Int → List Value → Int → List Value → List Value
  tl : Int → Bool → Int → List Value → Bool
variable (S : Sy) (g : KvF) (t : StF) (u : MiF)
def cloneQ : PF := pf (.cons cP .nil) (fun d => S.nle (S.len d.1) LIM) [dsl zP []] fun d => [dsl zP d.1]
def recsP : PF := pf (.cons cIs .nil) (fun d => S.nle (S.len d.1) 9223372036854775807 ∧ ∀ i, S.nlt i (S.len d.1) → inI S (S.dint (S.get zI d.1 i))) [dsl zP []] fun d => [dsl zP (u.recs d.1)]
def recsSh : Shape := ⟨slotsOf 42 [(3, .one (.zero (.osl 0 zP))), (7, .one (.zero (.deep zI))), (8, .one (.zero .hole)), (9, .one (.zero .hole))], [some .tok]⟩
def recsLs (xs : List Value) (I : CatB → Prop) (m : CatB → Nat) : Loops := loop1 { D := CatB, sh := recsSh, rho := recsSh.find 0, fills := fun d => [.dl d.r, .dl xs, .val (.int .i64 d.n), .val (.int .i64 d.i)], I := I, m := m } 0
def mirB : SB := .cells [.zero .hole, .zero .hole, .zero (.deep zP), .zero .boo] false
/-- The call's query, height, pairs; a mirror's height, backing, records, halted. -/
def takeO : OF := ⟨[.int .i64, .int .i64, .dl, .int .i64, .int .i64, .dl, .boo], ⟨[some (.one (.zero (.ptr 0 0))), some (.agg [.zero .hole, .zero .hole, .zero (.deep zP)])], [some mirB]⟩, fun d => S.nle (S.len d.2.2.1) LIM, [.one (.zero .hole)], [some mirB],
  fun d => [.val (.int .i64 (u.te d.2.2.2.1 d.2.1 d.2.2.1)), .val (.int .i64 (u.th d.2.2.2.1 d.2.1 d.2.2.1)), .val (.int .i64 (u.tb d.2.2.2.1 d.2.2.2.2.1 d.2.1 d.2.2.1)), .dl (u.tr d.2.2.2.1 d.2.2.2.2.2.1 d.2.1 d.2.2.1), .val (.bool (u.tl d.2.2.2.1 d.2.2.2.2.2.2.1 d.2.1 d.2.2.1))]⟩
def copyO : OF := ⟨[.int .i64, .int .i64, .dl, .boo], ⟨[some (.one (.zero (.ptr 0 0)))], [some mirB]⟩, fun d => S.nle (S.len d.2.2.1) LIM, [.one (.zero (.ptr 1 0))], [some mirB, some mirB],
  fun d => [.val (.int .i64 d.1), .val (.int .i64 d.2.1), .dl d.2.2.1, .val (.bool d.2.2.2.1), .val (.int .i64 d.1), .val (.int .i64 d.2.1), .dl d.2.2.1, .val (.bool d.2.2.2.1)]⟩
def recO : OF := ⟨[.int .i64, .int .i64, .dl, .boo], ⟨[some (.one (.zero (.ptr 0 0)))], [some mirB]⟩, fun d => S.nle (S.len d.2.2.1) LIM, [.one (.zero (.deep zP))], [some mirB],
  fun d => [.dl d.2.2.1, .val (.int .i64 d.1), .val (.int .i64 d.2.1), .dl d.2.2.1, .val (.bool d.2.2.2.1)]⟩
structure MpL where
  h : Int
  b : Int
  hal : Bool
  rc : List Value
  i : Int
  mh : Int
  mb : Int
  mr : List Value
  ml : Bool
structure MpK where
  h : Int
  b : Int
  hal : Bool
  rc : List Value
  i : Int
  mh : Int
  mb : Int
  mr : List Value
  ml : Bool
  kq : Int
  kh : Int
  kp : List Value
  ri : Bool
  n : Int
  j : Int
def mpSh : Shape := ⟨slotsOf 154 [(0, .one (.zero (.deep zI))), (1, .one (.zero (.deep (dsl zI [])))), (2, .one (.zero (.deep zP))), (7, .one (.zero (.ptr 0 0))), (8, .one (.zero .hole)), (9, .one (.zero .hole)), (10, .one (.zero .boo)), (11, .one (.zero (.deep zP))), (12, .one (.zero .hole))], [some mirB]⟩
def callB : SB := .cells [.zero .hole, .zero .hole, .zero (.deep zP)] false
def mpSh2 : Shape := ⟨slotsOf 154 [(0, .one (.zero (.deep zI))), (1, .one (.zero (.deep (dsl zI [])))), (2, .one (.zero (.deep zP))), (7, .one (.zero (.ptr 0 0))), (8, .one (.zero .hole)), (9, .one (.zero .hole)), (10, .one (.zero .boo)), (11, .one (.zero (.deep zP))), (12, .one (.zero .hole)), (13, .one (.zero (.ptr 1 0))), (14, .one (.zero .boo)), (74, .one (.zero (.deep zP))), (75, .one (.zero .hole)), (76, .one (.zero .hole))], [some mirB, some callB]⟩
def mpLs (hs rows raw : List Value) (I : MpL → Prop) (m : MpL → Nat) (J : MpK → Prop) (q : MpK → Nat) : Loops := fun id =>
  if id = 0 then some [{ D := MpL, sh := mpSh, rho := mpSh.find 0, fills := fun d => [.dl hs, .dl rows, .dl raw, .val (.int .i64 d.h), .val (.int .i64 d.b), .val (.bool d.hal), .dl d.rc, .val (.int .i64 d.i), .val (.int .i64 d.mh), .val (.int .i64 d.mb), .dl d.mr, .val (.bool d.ml)], I := I, m := m }] else
  if id = 2 then some [{ D := MpK, sh := mpSh2, rho := mpSh2.find 0, fills := fun d => [.dl hs, .dl rows, .dl raw, .val (.int .i64 d.h), .val (.int .i64 d.b), .val (.bool d.hal), .dl d.rc, .val (.int .i64 d.i), .val (.bool d.ri), .dl d.kp, .val (.int .i64 d.n), .val (.int .i64 d.j), .val (.int .i64 d.mh), .val (.int .i64 d.mb), .dl d.mr, .val (.bool d.ml), .val (.int .i64 d.kq), .val (.int .i64 d.kh), .dl d.kp], I := J, m := q, gh := some fun d => [.int .i64 d.i] }] else none
def cRows : Cod (List Value) := cL (dsl zI []) rfl
def mpP : PF := pf (.cons cIs (.cons cRows (.cons cP .nil))) (fun _ => True) [.bool false] fun _ => [.bool true]
end
end Go.Proofs.Ytddejgkfgnokgaa
end
section
namespace Go.Proofs.Ytddejgkfgnokgaa
open Go.RowKit Go.Abs Go
noncomputable section
abbrev Ents := List (Value × Value)
/-- A call; an entry (a call, a block), as one row of cells. -/
def zC : Value := .agg #[.int .i64 0, .int .i64 0, dsl zP []]
def zE : Value := .agg #[.int .i64 0, .int .i64 0, dsl zP [], .int .i64 0]
def cCall : Cod (Int × Int × List Value × Unit) := cA (.cons cI64 rfl (.cons cI64 rfl (.cons cP rfl .nil)))
structure CaF where
  pick : List Value → Int → Int
  pe : Int → Int → Int → Ents → Int
  pm : Int → Int → List Value → Int → Ents → Ents
  gq : Int → Int → Int → Ents → Int
  gh : Int → Int → Int → Ents → Int
  gp : Int → Int → Int → Ents → List Value
  ge : Int → Int → Int → Ents → Int
  lh : Int → Ents → Int
  okE : Ents → Prop
variable (S : Sy) (g : KvF) (u : CaF)
def pickQ : PF := pf (.cons cIs (.cons cI64 .nil)) (fun d => (∀ i, S.nlt i (S.len d.1) → inI S (S.dint (S.get zI d.1 i))) ∧ S.ile 0 d.2.1 ∧ S.ile d.2.1 1000000) [zI] fun d => [mk (.int .i64 (u.pick d.1 d.2.1))]
def pickQCon : Con := conL [(16, withinC S)]
def cpyP : PF := pf (.cons cCall .nil) (fun d => S.nle (S.len d.1.2.2.1) LIM) [zC] fun d => [.agg #[mk (.int .i64 d.1.1), mk (.int .i64 d.1.2.1), dsl zP d.1.2.2.1]]
def cacB : SB := .cells [.zero (.map 1)] false
/-- The call's query, height, pairs; the block; the entries. -/
def putO : OF := ⟨[.int .i64, .int .i64, .dl, .int .i64, .me], ⟨[some (.one (.zero (.ptr 0 0))), some (.agg [.zero .hole, .zero .hole, .zero (.deep zP)]), some (.one (.zero .hole))], [some cacB, some (.smap zI zE)]⟩, fun d => S.nle (S.len d.2.2.1) LIM, [.one (.zero .hole)], [some cacB, some (.smap zI zE)],
  fun d => [.val (.int .i64 (u.pe d.1 d.2.1 d.2.2.2.1 d.2.2.2.2.1)), .me (u.pm d.1 d.2.1 d.2.2.1 d.2.2.2.1 d.2.2.2.2.1)]⟩
/-- The query, the block, the bound; the entries. -/
def getO : OF := ⟨[.int .i64, .int .i64, .int .i64, .me], ⟨[some (.one (.zero (.ptr 0 0))), some (.one (.zero .hole)), some (.one (.zero .hole)), some (.one (.zero .hole))], [some cacB, some (.smap zI zE)]⟩, fun d => S.ile (-1000000) d.2.1 ∧ S.ile d.2.1 1000000 ∧ u.okE d.2.2.2.1, [.agg [.zero .hole, .zero .hole, .zero (.deep zP)], .one (.zero .hole)], [some cacB, some (.smap zI zE)],
  fun d => [.val (.int .i64 (u.gq d.1 d.2.1 d.2.2.1 d.2.2.2.1)), .val (.int .i64 (u.gh d.1 d.2.1 d.2.2.1 d.2.2.2.1)), .dl (u.gp d.1 d.2.1 d.2.2.1 d.2.2.2.1), .val (.int .i64 (u.ge d.1 d.2.1 d.2.2.1 d.2.2.2.1)), .me d.2.2.2.1]⟩
def lastO : OF := ⟨[.int .i64, .me], ⟨[some (.one (.zero (.ptr 0 0))), some (.one (.zero .hole))], [some cacB, some (.smap zI zE)]⟩, fun _ => True, [.one (.zero .hole)], [some cacB, some (.smap zI zE)],
  fun d => [.val (.int .i64 (u.lh d.1 d.2.1)), .me d.2.1]⟩
def cacO : OF := ⟨[.me], ⟨[some (.one (.zero (.ptr 0 0)))], [some cacB, some (.smap zI zE)]⟩, fun _ => True, [.one (.zero (.ptr 2 0))], [some cacB, some (.smap zI zE), some (.cells [.zero (.map 3)] false), some (.smap zI zE)],
  fun d => [.me d.1, .me d.1]⟩
structure CaL where
  i : Int
  es : Ents
  la : Ents
  wh : Ents
structure CaK where
  i : Int
  x : Int
  es : Ents
  la : Ents
  wh : Ents
def caSh : Shape := ⟨slotsOf 221 [(0, .one (.zero (.deep zI))), (1, .one (.zero (.deep zI))), (5, .one (.zero (.ptr 0 0))), (6, .one (.zero (.map 2))), (7, .one (.zero (.map 3))), (8, .one (.zero .hole))], [some cacB, some (.smap zI zE), some (.smap zI zC), some (.smap zI zI)]⟩
def caSh3 : Shape := ⟨slotsOf 221 [(0, .one (.zero (.deep zI))), (1, .one (.zero (.deep zI))), (5, .one (.zero (.ptr 0 0))), (6, .one (.zero (.map 2))), (7, .one (.zero (.map 3))), (8, .one (.zero .hole)), (16, .one (.zero .hole))], [some cacB, some (.smap zI zE), some (.smap zI zC), some (.smap zI zI)]⟩
def caLs (ns bs : List Value) (I : CaL → Prop) (m : CaL → Nat) (J : CaK → Prop) (q : CaK → Nat) : Loops := fun id =>
  if id = 0 then some [{ D := CaL, sh := caSh, rho := caSh.find 0, fills := fun d => [.dl ns, .dl bs, .val (.int .i64 d.i), .me d.es, .me d.la, .me d.wh], I := I, m := m }] else
  if id = 3 then some [{ D := CaK, sh := caSh3, rho := caSh3.find 0, fills := fun d => [.dl ns, .dl bs, .val (.int .i64 d.i), .val (.int .i64 d.x), .me d.es, .me d.la, .me d.wh], I := J, m := q, gh := some fun d => [.int .i64 d.i] }] else none
def caP : PF := pf (.cons cIs (.cons cIs .nil)) (fun _ => True) [.bool false] fun _ => [.bool true]
end
end Go.Proofs.Ytddejgkfgnokgaa
end
section
namespace Go.Proofs.Ytddejgkfgnokgaa
open Go.RowKit Go.Maps Go.Sort Go.Shelf Go.Abs
shelf_lay_g SlLaysZ.n7 Ggz 7 at Try 28 as Try.keysAR
shelf_lay_g SlLaysZ.n6 Ggz 6 at Try 27 as Try.sortedAR
shelf_lay_g SlLaysM.n6 Slgm 6 at Try 31 as Try.sortAR
theorem Try.sortsAR (m : Nat) : AnyZ.SortsIn Try.prog Try.sortedAR_ren Fence.wide m :=
  ⟨fun blk off cap ss W hH hblk hsz => callsIn_wide.2 (AnyM.slices_Sort_string Try.sortAR blk off cap ss W hH hblk hsz),
   fun p cap W => callsIn_wide.2 (AnyM.slices_Sort_string_none Try.sortAR p cap W)⟩

theorem sorted_strR {H : Type} (Bm b nn : Nat) (D0 : DataW H) (R : Value → Option (DataW H × List MemPlace)) (w : World) (hBm : Bm < w.heap.size) (hm : w.cell? ⟨Bm, 0, none⟩ = some (.map (some b))) (hown : w.ownsMap Try.prog 9 R b nn D0) (hmax : Maps.size D0 ≤ maxLen) (hbytes : Maps.size D0 * 16 ≤ 140737488355328) :
    Calls Try.prog 27 #[.func (.func 32) #[] #[.pointer (some ⟨Bm, 0, none⟩)]] w fun e w' => ∃ (v : Value) (ss : List (List UInt8)), e = .returned v ∧ ss.Perm (strKeys D0) ∧
      w'.ownsRow w.heap.size 9 1 v ss.length ((ss.mergeSort (fun x y => decide (x ≤ y))).map encStr) ∧ (v = .slice none 0 0 ↔ ss = []) ∧ Below w.heap.size w w' := by
  refine (callsIn_wide (n := 5)).1 ?_
  have hseq : SeqGives Fence.wide 2 Try.prog 32 #[.pointer (some ⟨Bm, 0, none⟩)] encStr (fun ss => ss.Perm (strKeys D0)) (Maps.size D0) w :=
    AnyZ.keys_gives (ρ := Try.keysAR_ren) { Try.keysAR with } Fence.wide _ trivial rfl (by omega) Bm b nn D0 _ hBm hm hown
  have cS := AnyZ.sorted_in Try.sortedAR Fence.wide 5 trivial trivial trivial trivial rfl (by omega) (Try.sortsAR _) (enters_of Try.func31 (by kernel_rfl) rfl) 32 #[.pointer (some ⟨Bm, 0, none⟩)] trivial (enters_of Try.func32 (by kernel_rfl) rfl) _ _ hmax hbytes _ hseq
  change CallsIn _ _ Try.prog 27 _ _ _ at cS
  exact cS

noncomputable def srtTR (es : List (Value × Value)) : List Value := (sortS (fun x y => decide (x ≤ y)) (es.map fun e => (dstr e.1).data.toList)).map fun b => .string ⟨b.toArray⟩
def okTR (es : List (Value × Value)) : Prop := es.length ≤ 1000 ∧ ∀ e ∈ es, (dstr e.1).data.toList.length ≤ 100000
/-- slices.Sorted(maps.Keys(m)). -/
noncomputable def sortCR (srt : List (Value × Value) → List Value) (ok : List (Value × Value) → Prop) (args : List Value) (h : Hp) (K : Value → Hp → Prop) : Prop :=
  match args with
  | [.func (.func k) first captured] => match first.toList, captured.toList with
    | [], [.pointer (some ⟨bx, 0, none⟩)] => match h.get bx with
      | some (.cells [.map (some r)] false) => match h.get r with
        | some (.smap (.string _) _ es) => if k = 32 then ok es ∧ K (dsl zS (srt es)) h else False
        | _ => False
      | _ => False
    | _, _ => False
  | _ => False
theorem cout_outR {μ μ' : Mu} {base : Nat} {h h' : Hp} {w w' : World} {v v' : Value} (hfree : ∀ b, h.next ≤ b → μ b = none) (ho : Out μ base h w v h' v' w' μ') : COut μ base h w v h' v' w' μ' := by
  refine ⟨ho.val, ho.sim.rel, fun b hb => ?_, ho.sim.fr, ho.sim.own, fun i hi => ?_, ho.next, ho.sim.le.z, ho.sim.fz⟩
  · by_cases e : μ' b = μ b
    · rw [e]; exact hfree b (Nat.le_trans ho.next hb)
    · have := ho.dom b e; omega
  · by_cases e : μ' i = μ i
    · exact e
    · have := ho.dom i e; omega
theorem flat_strs : ∀ l : List (List UInt8), flatN zS (l.map fun b => Value.string ⟨b.toArray⟩) = l.map fun b => Value.string ⟨b.toArray⟩
  | [] => rfl
  | b :: l => by
    show flatN zS (Value.string ⟨b.toArray⟩ :: l.map fun b => Value.string ⟨b.toArray⟩) = Value.string ⟨b.toArray⟩ :: l.map fun b => Value.string ⟨b.toArray⟩
    rw [flatN_cons, flat_strs l]; rfl
theorem sortCR_ok : ∀ args h K, sortCR srtTR okTR args h K → CallSem Try.prog 27 args h K := by
  intro args h K e μ base w args' hl hrel hfree
  unfold sortCR at e
  split at e
  case h_2 => exact e.elim
  rename_i k first captured
  split at e
  case h_2 => exact e.elim
  rename_i bx hf hc
  split at e
  case h_2 => exact e.elim
  rename_i r hbx
  split at e
  case h_2 => exact e.elim
  rename_i kn vz es hr
  split at e
  case isFalse => exact e.elim
  rename_i hk
  subst hk
  obtain ⟨⟨hlen, hrng⟩, hK⟩ := e
  obtain ⟨v1, l1, e1, r1, hl⟩ := hl.inv_cons
  have e4 := hl.inv_nil
  subst e4
  obtain ⟨first', cap', rfl, g1, g2⟩ := r1.inv_func rfl
  rw [hf] at g1; rw [hc] at g2
  have g1 := g1.inv_nil
  obtain ⟨pv, l2, e2, r2, g2⟩ := g2.inv_cons
  have g2 := g2.inv_nil
  subst g2
  have r2' : VR μ (.pointer (some ⟨bx, 0, none⟩)) pv := .zero r2
  obtain ⟨p, hp, rfl⟩ := r2'.inv_ptr
  obtain ⟨arr, et, fr, h1, h2, h3, h4⟩ := hrel.blk bx p _ hp hbx
  obtain ⟨_, _, hs⟩ := h4 rfl
  have hs : p.s = 0 := hs rfl
  obtain ⟨mv, h5, h6⟩ := h3 0 _ rfl
  obtain ⟨pr, hpr, rfl⟩ := (VR.one h6).inv_map
  obtain ⟨es', clock, h7, h8, _, _, hwf⟩ := hrel.blk r pr _ hpr hr
  have hcell : w.cell? ⟨p.c, 0, none⟩ = some (.map (some pr.c)) := by
    rw [cell_of_row w p.c 0 arr et fr h1]
    rw [← h5, hs]
  have ha : args' = #[.func (.func 32) #[] #[.pointer (some ⟨p.c, 0, none⟩)]] := by
    apply Array.toList_inj.1
    rw [e1]
    have a1 : first' = #[] := Array.toList_inj.1 g1
    have a2 : cap' = #[.pointer (some ⟨p.c, 0 + p.s, none⟩)] := Array.toList_inj.1 e2
    rw [a1, a2, hs]
  subst ha
  have hkeys : es'.toList.map (·.key) = (es.map fun e => dstr e.1).map Value.string := by
    rw [List.map_map]
    apply List.ext_getElem?
    intro i
    rw [List.getElem?_map, List.getElem?_map]
    rcases h8.get i with ⟨a, b⟩ | ⟨a, b, c, d, rr⟩
    · rw [a, b]; rfl
    · rw [c, d]
      have := rr.key
      show some b.key = some _
      rw [this]; rfl
  have hst : MapKept.Stamped es' clock := ⟨fun x hx => hwf.1 x hx, hwf.2.1, hwf.2.2⟩
  have hsz : es'.size = es.length := by rw [← Array.length_toList, h8.1]
  have hmaxl : (1000 : Nat) ≤ maxLen := by decide
  obtain ⟨D0, ho, hperm, hDs⟩ := ownsMap_str (P := Try.prog) (k := 9) h7 Try.underlying9 hst (by omega) hkeys (fun n hn => by
    obtain ⟨e0, he0, rfl⟩ := List.mem_map.1 hn
    have := hrng e0 he0
    have h9 : (dstr e0.1).size = (dstr e0.1).data.toList.length := rfl
    have h10 : (100000 : Nat) ≤ maxLen := by decide
    omega)
  have hplt : p.c < w.heap.size := (Array.getElem?_eq_some_iff.1 h1).1
  have hcall := sorted_strR p.c pr.c es'.size D0 blankR w hplt hcell ho (by omega) (by omega)
  have hname : (callFunc 27 #[.func (.func 32) #[] #[.pointer (some ⟨p.c, 0, none⟩)]]).run Try.prog w = .ok (.enter 27 #[.func (.func 32) #[] #[.pointer (some ⟨p.c, 0, none⟩)]]) w := by
    have hn := Try.progOk.name Try.func27
    obtain ⟨c, hb⟩ : ∃ c, Try.f27.body = some c := ⟨_, rfl⟩
    simp [callFunc, Try.func27, hn, hb]
  refine .inr ⟨hname, hcall.mono ?_⟩
  rintro en w' ⟨v, ss, rfl, hS, hrow, hnil, hbel⟩
  refine ⟨v, rfl, ?_⟩
  have hss : ss.mergeSort (fun x y => decide (x ≤ y)) = sortS (fun x y => decide (x ≤ y)) (es.map fun e => (dstr e.1).data.toList) := by
    have := sortS_str (hS.trans hperm)
    rw [List.map_map] at this
    exact this
  rw [hss] at hrow
  have hsim := (sim_same hrel hbel).toW
  obtain ⟨_, ho | ⟨gg, cap, cur, rfl, j1, j2, j3, _, j5, j6⟩⟩ := hrow
  · have hse : ss = [] := List.length_eq_zero_iff.1 ho.2
    rw [hnil.2 hse]
    have hre : srtTR es = [] := by
      unfold srtTR
      rw [← hss, hse]; simp
    rw [hre] at hK
    exact ⟨_, h, μ, hK, cout_outR hfree ⟨.zero (.deep .nil), sim_same hrel hbel, Nat.le_refl _, fun b hb => absurd rfl hb, Keeps.refl _ _⟩⟩
  · simp only [Nat.mul_one] at j5 j6
    have hz2 := muZ_sim (lo := 0) (hi := ss.length) hsim j2 (fun b q y hb hy _ hcc => by
      have := (hrel.blk b q y hb hy).lt
      omega) (.inl j1)
    have hlen2 : (srtTR es).length = ss.length := by
      unfold srtTR; rw [← hss, List.length_map, List.length_mergeSort]
    refine ⟨_, h, muZ μ gg 0 ss.length cur, hK, cout_outR hfree ((OutG.mk ?_ hz2 (Nat.le_refl _) fun b hb => absurd rfl hb).out (Keeps.refl _ _))⟩
    have hcell2 : ∀ (i : Nat) y, (flatN zS (srtTR es))[i]? = some y → i < ss.length ∧ cur[i]? = some y ∧ plain1 y = true := by
      intro i y hy
      rw [show flatN zS (srtTR es) = srtTR es from flat_strs _] at hy
      have hi := (List.getElem?_eq_some_iff.1 hy).1
      rw [hlen2] at hi
      refine ⟨hi, ?_, (by obtain ⟨n0, _, rfl⟩ := List.mem_map.1 (List.mem_of_getElem? hy); rfl)⟩
      rw [← Array.getElem?_toList]
      have : (srtTR es)[i]? = (cur.toList.take ss.length)[i]? := by rw [j6]; rfl
      rw [this, List.getElem?_take, if_pos hi] at hy
      exact hy
    refine .zero (.deep (.sl (fun i => cur.getD i (.bool false)) hlen2 j3 (fun i y hy => ?_) (fun i y hy => ?_)))
    · obtain ⟨hi, hc1, _⟩ := hcell2 i y hy
      show zAdd μ.z gg 0 ss.length cur gg (0 + i) = _
      unfold zAdd
      rw [if_pos ⟨rfl, Nat.zero_le _, by omega⟩, Nat.zero_add, hc1, Array.getD_eq_getD_getElem?, hc1]; rfl
    · obtain ⟨hi, hc1, hpl⟩ := hcell2 i y hy
      rw [Array.getD_eq_getD_getElem?, hc1]
      exact .plain hpl
end Go.Proofs.Ytddejgkfgnokgaa
end
section
namespace Go.Proofs.Ytddejgkfgnokgaa
open Go.RowKit Go.Abs Go
noncomputable section
/-- Same of numbers; f what it comes to. -/
def siP (S : Sy) (f : List Value → List Value → Bool) : PF := pf (.cons cIs (.cons cIs .nil)) (fun d => S.nle (S.len d.1) LIM) [.bool false] fun d => [mkb (f d.1 d.2.1)]
end
end Go.Proofs.Ytddejgkfgnokgaa
end
section
namespace Go.Proofs.Ytddejgkfgnokgaa
open Go.RowKit Go.Abs Go
noncomputable section
abbrev BS := ByteArray
/-- A call: kind, user, amount. -/
def zAsk : Value := .agg #[.int .i64 0, .int .i64 0, .int .i64 0]
def cAsks : Cod (List Value) := cL zAsk rfl
/-- What the ledgers' functions come to: letters (user, amount, backing, pending, shares, halted, users). -/
structure RtF where
  may : BS → Int → Bool
  mN : BS → Int → Int → Int → Int → Bool → Ents → Int
  mE : BS → Int → Int → Int → Int → Bool → Ents → Int
  mP : BS → Int → Int → Int → Int → Bool → Ents → Int
  mA : BS → Int → Int → Int → Int → Bool → Ents → Int
  mM : BS → Int → Int → Int → Int → Bool → Ents → Ents
  rN : BS → Int → Int → Int → Int → Bool → Ents → Int
  rE : BS → Int → Int → Int → Int → Bool → Ents → Int
  rP : BS → Int → Int → Int → Int → Bool → Ents → Int
  rA : BS → Int → Int → Int → Int → Bool → Ents → Int
  rM : BS → Int → Int → Int → Int → Bool → Ents → Ents
  bE : Int → Int → Int
  bS : Int → Int → Int → Int
  bH : Int → Int → Bool → Bool
  ri : Nat → Nat → Nat → Nat → Bool
  okX : Nat → Nat → Nat → Nat → Prop
  okM : BS → Int → Int → Int → Int → Ents → Prop
  okS : Ents → Prop
  srt : Ents → List Value
variable (S : Sy) (g : KvF) (u : RtF)
def ledB (k : Nat) : SB := .cells [.zero .hole, .zero .hole, .zero .hole, .zero .boo, .zero (.map k)] false
def refB (k : Nat) : SB := .cells [.zero .hole, .zero .hole, .zero .hole, .zero (.map k), .zero .boo] false
def led1 : List (Option SB) := [some (ledB 1), some (.smap zS zI)]
def ref1 : List (Option SB) := [some (refB 1), some (.smap zS zI)]
def aO : SA := .one (.zero .hole)
def aB : SA := .one (.zero .boo)
def aP : Option SA := some (.one (.zero (.ptr 0 0)))
def amt (n : Int) : Prop := S.ile 0 n ∧ S.ile n 1073741824
def okL (s p a : Int) : Prop := amt S s ∧ amt S p ∧ amt S a ∧ S.ile (S.add s p) 1073741824
def lmayP : PF := pf (.cons cS (.cons cI64 .nil)) (fun _ => True) [.bool false] fun d => [mkb (u.may d.1 d.2.1)]
def poolO : OF := ⟨[.int .i64, .int .i64, .int .i64, .boo, .me], ⟨[aP], led1⟩, fun d => okL S d.1 d.2.1 d.2.2.1, [aO], led1,
  fun d => [.val (.int .i64 (S.add d.1 d.2.1)), .val (.int .i64 d.1), .val (.int .i64 d.2.1), .val (.int .i64 d.2.2.1), .val (.bool d.2.2.2.1), .me d.2.2.2.2.1]⟩
def plO : OF := ⟨[.int .i64, .int .i64, .int .i64, .boo, .me], ⟨[aP], led1⟩, fun d => okL S d.1 d.2.1 d.2.2.1, [aO], led1,
  fun d => [.val (.complex .f64 (S.fof (S.add d.1 d.2.1)) (S.fof d.2.2.1)), .val (.int .i64 d.1), .val (.int .i64 d.2.1), .val (.int .i64 d.2.2.1), .val (.bool d.2.2.2.1), .me d.2.2.2.2.1]⟩
def pendO : OF := ⟨[.int .i64, .int .i64, .int .i64, .boo, .me], ⟨[aP], led1⟩, fun _ => True, [aO], led1,
  fun d => [.val (.int .i64 d.2.1), .val (.int .i64 d.1), .val (.int .i64 d.2.1), .val (.int .i64 d.2.2.1), .val (.bool d.2.2.2.1), .me d.2.2.2.2.1]⟩
def hltdO : OF := ⟨[.int .i64, .int .i64, .int .i64, .boo, .me], ⟨[aP], led1⟩, fun _ => True, [aB], led1,
  fun d => [.val (.bool d.2.2.2.1), .val (.int .i64 d.1), .val (.int .i64 d.2.1), .val (.int .i64 d.2.2.1), .val (.bool d.2.2.2.1), .me d.2.2.2.2.1]⟩
def haltO : OF := ⟨[.int .i64, .int .i64, .int .i64, .boo, .me], ⟨[aP], led1⟩, fun _ => True, [], led1,
  fun d => [.val (.int .i64 d.1), .val (.int .i64 d.2.1), .val (.int .i64 d.2.2.1), .val (.bool true), .me d.2.2.2.2.1]⟩
def usersO : OF := ⟨[.int .i64, .int .i64, .int .i64, .boo, .me], ⟨[aP], led1⟩, fun d => u.okS d.2.2.2.2.1, [.one (.zero (.deep zS))], led1,
  fun d => [.dl (u.srt d.2.2.2.2.1), .val (.int .i64 d.1), .val (.int .i64 d.2.1), .val (.int .i64 d.2.2.1), .val (.bool d.2.2.2.1), .me d.2.2.2.2.1]⟩
def sharesO : OF := ⟨[.str, .int .i64, .int .i64, .int .i64, .boo, .me], ⟨[aP, some aO], led1⟩, fun _ => True, [aO], led1,
  fun d => [.val (.int .i64 (S.dint (S.mget zS zI d.2.2.2.2.2.1 (.string d.1)))), .val (.int .i64 d.2.1), .val (.int .i64 d.2.2.1), .val (.int .i64 d.2.2.2.1), .val (.bool d.2.2.2.2.1), .me d.2.2.2.2.2.1]⟩
def ledCpO : OF := ⟨[.int .i64, .int .i64, .int .i64, .boo, .me], ⟨[aP], led1⟩, fun _ => True, [.one (.zero (.ptr 2 0))], [some (ledB 1), some (.smap zS zI), some (ledB 3), some (.smap zS zI)],
  fun d => [.val (.int .i64 d.1), .val (.int .i64 d.2.1), .val (.int .i64 d.2.2.1), .val (.bool d.2.2.2.1), .me d.2.2.2.2.1, .val (.int .i64 d.1), .val (.int .i64 d.2.1), .val (.int .i64 d.2.2.1), .val (.bool d.2.2.2.1), .me d.2.2.2.2.1]⟩
def backO : OF := ⟨[.int .i64, .int .i64, .int .i64, .int .i64, .boo, .me], ⟨[aP, some aO], led1⟩, fun d => amt S d.2.2.1, [aO], led1,
  fun d => [.val (.int .i64 (u.bE d.1 d.2.2.1)), .val (.int .i64 (u.bS d.1 d.2.1 d.2.2.1)), .val (.int .i64 d.2.2.1), .val (.int .i64 d.2.2.2.1), .val (.bool (u.bH d.1 d.2.2.1 d.2.2.2.2.1)), .me d.2.2.2.2.2.1]⟩
def mrPre (d : FC [.str, .int .i64, .int .i64, .int .i64, .int .i64, .boo, .me]) : Prop := u.okM d.1 d.2.1 d.2.2.1 d.2.2.2.1 d.2.2.2.2.1 d.2.2.2.2.2.2.1
def mrTs : List FT := [.str, .int .i64, .int .i64, .int .i64, .int .i64, .boo, .me]
def mintOut (d : FC mrTs) : List Filler := [.val (.int .i64 (u.mN d.1 d.2.1 d.2.2.1 d.2.2.2.1 d.2.2.2.2.1 d.2.2.2.2.2.1 d.2.2.2.2.2.2.1)), .val (.int .i64 (u.mE d.1 d.2.1 d.2.2.1 d.2.2.2.1 d.2.2.2.2.1 d.2.2.2.2.2.1 d.2.2.2.2.2.2.1)),
  .val (.int .i64 d.2.2.1), .val (.int .i64 (u.mP d.1 d.2.1 d.2.2.1 d.2.2.2.1 d.2.2.2.2.1 d.2.2.2.2.2.1 d.2.2.2.2.2.2.1)), .val (.int .i64 (u.mA d.1 d.2.1 d.2.2.1 d.2.2.2.1 d.2.2.2.2.1 d.2.2.2.2.2.1 d.2.2.2.2.2.2.1)), .val (.bool d.2.2.2.2.2.1), .me (u.mM d.1 d.2.1 d.2.2.1 d.2.2.2.1 d.2.2.2.2.1 d.2.2.2.2.2.1 d.2.2.2.2.2.2.1)]
def redOut (d : FC mrTs) : List Filler := [.val (.int .i64 (u.rN d.1 d.2.1 d.2.2.1 d.2.2.2.1 d.2.2.2.2.1 d.2.2.2.2.2.1 d.2.2.2.2.2.2.1)), .val (.int .i64 (u.rE d.1 d.2.1 d.2.2.1 d.2.2.2.1 d.2.2.2.2.1 d.2.2.2.2.2.1 d.2.2.2.2.2.2.1)),
  .val (.int .i64 d.2.2.1), .val (.int .i64 (u.rP d.1 d.2.1 d.2.2.1 d.2.2.2.1 d.2.2.2.2.1 d.2.2.2.2.2.1 d.2.2.2.2.2.2.1)), .val (.int .i64 (u.rA d.1 d.2.1 d.2.2.1 d.2.2.2.1 d.2.2.2.2.1 d.2.2.2.2.2.1 d.2.2.2.2.2.2.1)), .val (.bool d.2.2.2.2.2.1), .me (u.rM d.1 d.2.1 d.2.2.1 d.2.2.2.1 d.2.2.2.2.1 d.2.2.2.2.2.1 d.2.2.2.2.2.2.1)]
def mintO : OF := ⟨mrTs, ⟨[aP, some aO, some aO], led1⟩, mrPre u, [aO, aO], led1, mintOut u⟩
def redO : OF := ⟨mrTs, ⟨[aP, some aO, some aO], led1⟩, mrPre u, [aO, aO], led1, redOut u⟩
def rmintO : OF := ⟨mrTs, ⟨[aP, some aO, some aO], ref1⟩, mrPre u, [aO, aO], ref1, mintOut u⟩
def rredO : OF := ⟨mrTs, ⟨[aP, some aO, some aO], ref1⟩, mrPre u, [aO, aO], ref1, redOut u⟩
def riO : OF := ⟨[.com, .com], ⟨[some aO, some aO], []⟩, fun d => u.okX d.1.1 d.1.2 d.2.1.1 d.2.1.2, [aB], [], fun d => [.val (.bool (u.ri d.1.1 d.1.2 d.2.1.1 d.2.1.2))]⟩
def usersCon : Con := conL [(27, sortCR u.srt u.okS)]
def plCon : Con := noCon.draw [(26, ocd (poolO S))]
def mrCon : Con := (conL [(26, ocon (poolO S)), (25, pcon (lmayP u))]).draw [(26, ocd (poolO S))]
end
end Go.Proofs.Ytddejgkfgnokgaa
end
section
namespace Go.Proofs.Ytddejgkfgnokgaa
open Go.Abs Go
def mintL (u : RtF) (us : BS) (n s p a : Int) (h : Bool) (es : Ents) : List Filler :=
  [(Filler.val (Value.int IntKind.i64 (u.mN us n s p a h es))), (Filler.val (Value.int IntKind.i64 (u.mE us n s p a h es))), (Filler.val (Value.int IntKind.i64 s)), (Filler.val (Value.int IntKind.i64 (u.mP us n s p a h es))), (Filler.val (Value.int IntKind.i64 (u.mA us n s p a h es))), (Filler.val (Value.bool h)), (Filler.me (u.mM us n s p a h es))]
def redL (u : RtF) (us : BS) (n s p a : Int) (h : Bool) (es : Ents) : List Filler :=
  [(Filler.val (Value.int IntKind.i64 (u.rN us n s p a h es))), (Filler.val (Value.int IntKind.i64 (u.rE us n s p a h es))), (Filler.val (Value.int IntKind.i64 s)), (Filler.val (Value.int IntKind.i64 (u.rP us n s p a h es))), (Filler.val (Value.int IntKind.i64 (u.rA us n s p a h es))), (Filler.val (Value.bool h)), (Filler.me (u.rM us n s p a h es))]
set_option maxRecDepth 100000 in
theorem ledmay_vc (u : RtF) (us : BS) (n : Int) : runP std noCon 60 noL (lmayP u) 25 Try.f25 (us, n, ()) =
  ((((!(std.seq us (ByteArray.mk (Array.mk [])))) = true) → ((((decide (((std.slen us) : Int) ≤ (16 : Int))) = true) → ((((decide ((1 : Int) ≤ n)) = true) → ((((decide (n ≤ (1073741824 : Int))) = true) → ([(Value.bool true)] = [(Value.bool (u.may us n))])) ∧ (((decide (n ≤ (1073741824 : Int))) = false) → ([(Value.bool false)] = [(Value.bool (u.may us n))])))) ∧ (((decide ((1 : Int) ≤ n)) = false) → ([(Value.bool false)] = [(Value.bool (u.may us n))])))) ∧ (((decide (((std.slen us) : Int) ≤ (16 : Int))) = false) → ([(Value.bool false)] = [(Value.bool (u.may us n))])))) ∧ (((!(std.seq us (ByteArray.mk (Array.mk [])))) = false) → ([(Value.bool false)] = [(Value.bool (u.may us n))]))) := by kernel_rfl
set_option maxRecDepth 100000 in
theorem pool_vc (s p a : Int) (h : Bool) (es : Ents) : runW std noCon 60 noL (poolO std) 26 Try.f26 (s, p, a, h, es, ()) =
  ((((-9223372036854775808 : Int) ≤ (s + p)) ∧ ((s + p) ≤ (9223372036854775807 : Int))) ∧ ([(Filler.val (Value.int IntKind.i64 (s + p))), (Filler.val (Value.int IntKind.i64 s)), (Filler.val (Value.int IntKind.i64 p)), (Filler.val (Value.int IntKind.i64 a)), (Filler.val (Value.bool h)), (Filler.me es)] = [(Filler.val (Value.int IntKind.i64 (s + p))), (Filler.val (Value.int IntKind.i64 s)), (Filler.val (Value.int IntKind.i64 p)), (Filler.val (Value.int IntKind.i64 a)), (Filler.val (Value.bool h)), (Filler.me es)])) := by kernel_rfl
set_option maxRecDepth 100000 in
theorem pl_vc (s p a : Int) (h : Bool) (es : Ents) : runW std (plCon std) 60 noL (plO std) 12 Try.f12 (s, p, a, h, es, ()) =
  (((((0 : Int) ≤ s) ∧ (s ≤ (1073741824 : Int))) ∧ ((((0 : Int) ≤ p) ∧ (p ≤ (1073741824 : Int))) ∧ ((((0 : Int) ≤ a) ∧ (a ≤ (1073741824 : Int))) ∧ ((s + p) ≤ (1073741824 : Int))))) ∧ ((((Option.some (Value.func (Go.Fn.yield 0) (Array.mk [(Value.int IntKind.i64 a)]) (Array.mk []))) = (Option.some (Value.func (Go.Fn.yield 0) (Array.mk [(Value.int IntKind.i64 a)]) (Array.mk [])))) ∧ ((Option.some (Value.func (Go.Fn.yield 0) (Array.mk [(Value.int IntKind.i64 a)]) (Array.mk []))) = (Option.some (Value.func (Go.Fn.yield 0) (Array.mk [(Value.int IntKind.i64 a)]) (Array.mk []))))) ∧ ([(Filler.val (Value.complex Go.FloatKind.f64 (std.fof (s + p)) (std.fof a))), (Filler.val (Value.int IntKind.i64 s)), (Filler.val (Value.int IntKind.i64 p)), (Filler.val (Value.int IntKind.i64 a)), (Filler.val (Value.bool h)), (Filler.me es)] = [(Filler.val (Value.complex Go.FloatKind.f64 (std.fof (s + p)) (std.fof a))), (Filler.val (Value.int IntKind.i64 s)), (Filler.val (Value.int IntKind.i64 p)), (Filler.val (Value.int IntKind.i64 a)), (Filler.val (Value.bool h)), (Filler.me es)]))) := by kernel_rfl
set_option maxRecDepth 100000 in
theorem pend_vc (s p a : Int) (h : Bool) (es : Ents) : runW std noCon 60 noL (pendO) 21 Try.f21 (s, p, a, h, es, ()) =
  ([(Filler.val (Value.int IntKind.i64 p)), (Filler.val (Value.int IntKind.i64 s)), (Filler.val (Value.int IntKind.i64 p)), (Filler.val (Value.int IntKind.i64 a)), (Filler.val (Value.bool h)), (Filler.me es)] = [(Filler.val (Value.int IntKind.i64 p)), (Filler.val (Value.int IntKind.i64 s)), (Filler.val (Value.int IntKind.i64 p)), (Filler.val (Value.int IntKind.i64 a)), (Filler.val (Value.bool h)), (Filler.me es)]) := by kernel_rfl
set_option maxRecDepth 100000 in
theorem hltd_vc (s p a : Int) (h : Bool) (es : Ents) : runW std noCon 60 noL (hltdO) 20 Try.f20 (s, p, a, h, es, ()) =
  (((h = true) → ([(Filler.val (Value.bool h)), (Filler.val (Value.int IntKind.i64 s)), (Filler.val (Value.int IntKind.i64 p)), (Filler.val (Value.int IntKind.i64 a)), (Filler.val (Value.bool h)), (Filler.me es)] = [(Filler.val (Value.bool true)), (Filler.val (Value.int IntKind.i64 s)), (Filler.val (Value.int IntKind.i64 p)), (Filler.val (Value.int IntKind.i64 a)), (Filler.val (Value.bool h)), (Filler.me es)])) ∧ ((h = false) → ([(Filler.val (Value.bool h)), (Filler.val (Value.int IntKind.i64 s)), (Filler.val (Value.int IntKind.i64 p)), (Filler.val (Value.int IntKind.i64 a)), (Filler.val (Value.bool h)), (Filler.me es)] = [(Filler.val (Value.bool false)), (Filler.val (Value.int IntKind.i64 s)), (Filler.val (Value.int IntKind.i64 p)), (Filler.val (Value.int IntKind.i64 a)), (Filler.val (Value.bool h)), (Filler.me es)]))) := by kernel_rfl
set_option maxRecDepth 100000 in
theorem halt_vc (s p a : Int) (h : Bool) (es : Ents) : runW std noCon 60 noL (haltO) 19 Try.f19 (s, p, a, h, es, ()) =
  ([(Filler.val (Value.int IntKind.i64 s)), (Filler.val (Value.int IntKind.i64 p)), (Filler.val (Value.int IntKind.i64 a)), (Filler.val (Value.bool true)), (Filler.me es)] = [(Filler.val (Value.int IntKind.i64 s)), (Filler.val (Value.int IntKind.i64 p)), (Filler.val (Value.int IntKind.i64 a)), (Filler.val (Value.bool true)), (Filler.me es)]) := by kernel_rfl
set_option maxRecDepth 100000 in
theorem users_vc (u : RtF) (s p a : Int) (h : Bool) (es : Ents) : runW std (usersCon u) 60 noL (usersO u) 15 Try.f15 (s, p, a, h, es, ()) =
  ((u.okS es) ∧ ([(Filler.dl (u.srt es)), (Filler.val (Value.int IntKind.i64 s)), (Filler.val (Value.int IntKind.i64 p)), (Filler.val (Value.int IntKind.i64 a)), (Filler.val (Value.bool h)), (Filler.me es)] = [(Filler.dl (u.srt es)), (Filler.val (Value.int IntKind.i64 s)), (Filler.val (Value.int IntKind.i64 p)), (Filler.val (Value.int IntKind.i64 a)), (Filler.val (Value.bool h)), (Filler.me es)])) := by kernel_rfl
set_option maxRecDepth 100000 in
theorem shares_vc (us : BS) (s p a : Int) (h : Bool) (es : Ents) : runW std noCon 60 noL (sharesO std) 17 Try.f17 (us, s, p, a, h, es, ()) =
  ([(Filler.val (Value.int IntKind.i64 (std.dint (std.mget (Value.string (ByteArray.mk (Array.mk []))) (Value.int IntKind.i64 (0 : Int)) es (Value.string us))))), (Filler.val (Value.int IntKind.i64 s)), (Filler.val (Value.int IntKind.i64 p)), (Filler.val (Value.int IntKind.i64 a)), (Filler.val (Value.bool h)), (Filler.me es)] = [(Filler.val (Value.int IntKind.i64 (std.dint (std.mget (Value.string (ByteArray.mk (Array.mk []))) (Value.int IntKind.i64 (0 : Int)) es (Value.string us))))), (Filler.val (Value.int IntKind.i64 s)), (Filler.val (Value.int IntKind.i64 p)), (Filler.val (Value.int IntKind.i64 a)), (Filler.val (Value.bool h)), (Filler.me es)]) := by kernel_rfl
set_option maxRecDepth 100000 in
theorem ledcp_vc (s p a : Int) (h : Bool) (es : Ents) : runW std noCon 60 noL (ledCpO) 22 Try.f22 (s, p, a, h, es, ()) =
  ([(Filler.val (Value.int IntKind.i64 s)), (Filler.val (Value.int IntKind.i64 p)), (Filler.val (Value.int IntKind.i64 a)), (Filler.val (Value.bool h)), (Filler.me es), (Filler.val (Value.int IntKind.i64 s)), (Filler.val (Value.int IntKind.i64 p)), (Filler.val (Value.int IntKind.i64 a)), (Filler.val (Value.bool h)), (Filler.me es)] = [(Filler.val (Value.int IntKind.i64 s)), (Filler.val (Value.int IntKind.i64 p)), (Filler.val (Value.int IntKind.i64 a)), (Filler.val (Value.bool h)), (Filler.me es), (Filler.val (Value.int IntKind.i64 s)), (Filler.val (Value.int IntKind.i64 p)), (Filler.val (Value.int IntKind.i64 a)), (Filler.val (Value.bool h)), (Filler.me es)]) := by kernel_rfl
set_option maxRecDepth 100000 in
theorem back_vc (u : RtF) (n s p a : Int) (h : Bool) (es : Ents) : runW std noCon 60 noL (backO std u) 11 Try.f11 (n, s, p, a, h, es, ()) =
  ((((decide (n < (0 : Int))) = true) → ([(Filler.val (Value.int IntKind.i64 (u.bE n p))), (Filler.val (Value.int IntKind.i64 (u.bS n s p))), (Filler.val (Value.int IntKind.i64 p)), (Filler.val (Value.int IntKind.i64 a)), (Filler.val (Value.bool (u.bH n p h))), (Filler.me es)] = [(Filler.val (Value.int IntKind.i64 (11 : Int))), (Filler.val (Value.int IntKind.i64 s)), (Filler.val (Value.int IntKind.i64 p)), (Filler.val (Value.int IntKind.i64 a)), (Filler.val (Value.bool h)), (Filler.me es)])) ∧ (((decide (n < (0 : Int))) = false) → ((((-9223372036854775808 : Int) ≤ ((1073741824 : Int) - p)) ∧ (((1073741824 : Int) - p) ≤ (9223372036854775807 : Int))) ∧ ((((decide (((1073741824 : Int) - p) < n)) = true) → ([(Filler.val (Value.int IntKind.i64 (u.bE n p))), (Filler.val (Value.int IntKind.i64 (u.bS n s p))), (Filler.val (Value.int IntKind.i64 p)), (Filler.val (Value.int IntKind.i64 a)), (Filler.val (Value.bool (u.bH n p h))), (Filler.me es)] = [(Filler.val (Value.int IntKind.i64 (11 : Int))), (Filler.val (Value.int IntKind.i64 s)), (Filler.val (Value.int IntKind.i64 p)), (Filler.val (Value.int IntKind.i64 a)), (Filler.val (Value.bool h)), (Filler.me es)])) ∧ (((decide (((1073741824 : Int) - p) < n)) = false) → ([(Filler.val (Value.int IntKind.i64 (u.bE n p))), (Filler.val (Value.int IntKind.i64 (u.bS n s p))), (Filler.val (Value.int IntKind.i64 p)), (Filler.val (Value.int IntKind.i64 a)), (Filler.val (Value.bool (u.bH n p h))), (Filler.me es)] = [(Filler.val (Value.int IntKind.i64 (0 : Int))), (Filler.val (Value.int IntKind.i64 n)), (Filler.val (Value.int IntKind.i64 p)), (Filler.val (Value.int IntKind.i64 a)), (Filler.val (Value.bool false)), (Filler.me es)])))))) := by kernel_rfl
set_option maxRecDepth 100000 in
theorem mint_vc (u : RtF) (us : BS) (n s p a : Int) (h : Bool) (es : Ents) : runW std (mrCon std u) 60 noL (mintO u) 10 Try.f10 (us, n, s, p, a, h, es, ()) =
  (True ∧ ((((u.may us n) = true) → (((h = true) → ((mintL u us n s p a h es) = [(Filler.val (Value.int IntKind.i64 (0 : Int))), (Filler.val (Value.int IntKind.i64 (10 : Int))), (Filler.val (Value.int IntKind.i64 s)), (Filler.val (Value.int IntKind.i64 p)), (Filler.val (Value.int IntKind.i64 a)), (Filler.val (Value.bool h)), (Filler.me es)])) ∧ ((h = false) → ((((decide ((0 : Int) < a)) = true) → (((((0 : Int) ≤ s) ∧ (s ≤ (1073741824 : Int))) ∧ ((((0 : Int) ≤ p) ∧ (p ≤ (1073741824 : Int))) ∧ ((((0 : Int) ≤ a) ∧ (a ≤ (1073741824 : Int))) ∧ ((s + p) ≤ (1073741824 : Int))))) ∧ (((((s + p) == (0 : Int)) = true) → ((mintL u us n s p a h es) = [(Filler.val (Value.int IntKind.i64 (0 : Int))), (Filler.val (Value.int IntKind.i64 (10 : Int))), (Filler.val (Value.int IntKind.i64 s)), (Filler.val (Value.int IntKind.i64 p)), (Filler.val (Value.int IntKind.i64 a)), (Filler.val (Value.bool h)), (Filler.me es)])) ∧ ((((s + p) == (0 : Int)) = false) → ((((decide ((0 : Int) < a)) = true) → ((((-9223372036854775808 : Int) ≤ (n * a)) ∧ ((n * a) ≤ (9223372036854775807 : Int))) ∧ (((((0 : Int) ≤ s) ∧ (s ≤ (1073741824 : Int))) ∧ ((((0 : Int) ≤ p) ∧ (p ≤ (1073741824 : Int))) ∧ ((((0 : Int) ≤ a) ∧ (a ≤ (1073741824 : Int))) ∧ ((s + p) ≤ (1073741824 : Int))))) ∧ ((((0 : Int) < (s + p)) ∧ (((-9223372036854775808 : Int) ≤ (n * a)) ∧ ((n * a) ≤ (9223372036854775807 : Int)))) ∧ ((((Option.some (Value.func (Go.Fn.yield 0) (Array.mk [(Value.int IntKind.i64 a)]) (Array.mk []))) = (Option.some (Value.func (Go.Fn.yield 0) (Array.mk [(Value.int IntKind.i64 a)]) (Array.mk [])))) ∧ ((Option.some (Value.func (Go.Fn.yield 0) (Array.mk [(Value.int IntKind.i64 a)]) (Array.mk []))) = (Option.some (Value.func (Go.Fn.yield 0) (Array.mk [(Value.int IntKind.i64 a)]) (Array.mk []))))) ∧ (((((std.quo (n * a) (s + p)) == (0 : Int)) = true) → ((mintL u us n s p a h es) = [(Filler.val (Value.int IntKind.i64 (0 : Int))), (Filler.val (Value.int IntKind.i64 (11 : Int))), (Filler.val (Value.int IntKind.i64 s)), (Filler.val (Value.int IntKind.i64 p)), (Filler.val (Value.int IntKind.i64 a)), (Filler.val (Value.bool h)), (Filler.me es)])) ∧ ((((std.quo (n * a) (s + p)) == (0 : Int)) = false) → ((((-9223372036854775808 : Int) ≤ ((1073741824 : Int) - a)) ∧ (((1073741824 : Int) - a) ≤ (9223372036854775807 : Int))) ∧ ((((decide (((1073741824 : Int) - a) < (std.quo (n * a) (s + p)))) = true) → ((mintL u us n s p a h es) = [(Filler.val (Value.int IntKind.i64 (0 : Int))), (Filler.val (Value.int IntKind.i64 (11 : Int))), (Filler.val (Value.int IntKind.i64 s)), (Filler.val (Value.int IntKind.i64 p)), (Filler.val (Value.int IntKind.i64 a)), (Filler.val (Value.bool h)), (Filler.me es)])) ∧ (((decide (((1073741824 : Int) - a) < (std.quo (n * a) (s + p)))) = false) → (((((0 : Int) ≤ s) ∧ (s ≤ (1073741824 : Int))) ∧ ((((0 : Int) ≤ p) ∧ (p ≤ (1073741824 : Int))) ∧ ((((0 : Int) ≤ a) ∧ (a ≤ (1073741824 : Int))) ∧ ((s + p) ≤ (1073741824 : Int))))) ∧ ((((-9223372036854775808 : Int) ≤ ((1073741824 : Int) - (s + p))) ∧ (((1073741824 : Int) - (s + p)) ≤ (9223372036854775807 : Int))) ∧ ((((decide (((1073741824 : Int) - (s + p)) < n)) = true) → ((mintL u us n s p a h es) = [(Filler.val (Value.int IntKind.i64 (0 : Int))), (Filler.val (Value.int IntKind.i64 (11 : Int))), (Filler.val (Value.int IntKind.i64 s)), (Filler.val (Value.int IntKind.i64 p)), (Filler.val (Value.int IntKind.i64 a)), (Filler.val (Value.bool h)), (Filler.me es)])) ∧ (((decide (((1073741824 : Int) - (s + p)) < n)) = false) → (((((std.dint (std.mget (Value.string (ByteArray.mk (Array.mk []))) (Value.int IntKind.i64 (0 : Int)) es (Value.string us))) == (0 : Int)) = true) → ((((decide ((30 : Int) ≤ ((List.length es) : Int))) = true) → ((mintL u us n s p a h es) = [(Filler.val (Value.int IntKind.i64 (0 : Int))), (Filler.val (Value.int IntKind.i64 (7 : Int))), (Filler.val (Value.int IntKind.i64 s)), (Filler.val (Value.int IntKind.i64 p)), (Filler.val (Value.int IntKind.i64 a)), (Filler.val (Value.bool h)), (Filler.me es)])) ∧ (((decide ((30 : Int) ≤ ((List.length es) : Int))) = false) → ((((-9223372036854775808 : Int) ≤ ((std.dint (std.mget (Value.string (ByteArray.mk (Array.mk []))) (Value.int IntKind.i64 (0 : Int)) es (Value.string us))) + (std.quo (n * a) (s + p)))) ∧ (((std.dint (std.mget (Value.string (ByteArray.mk (Array.mk []))) (Value.int IntKind.i64 (0 : Int)) es (Value.string us))) + (std.quo (n * a) (s + p))) ≤ (9223372036854775807 : Int))) ∧ ((((-9223372036854775808 : Int) ≤ (a + (std.quo (n * a) (s + p)))) ∧ ((a + (std.quo (n * a) (s + p))) ≤ (9223372036854775807 : Int))) ∧ ((((-9223372036854775808 : Int) ≤ (p + n)) ∧ ((p + n) ≤ (9223372036854775807 : Int))) ∧ ((mintL u us n s p a h es) = [(Filler.val (Value.int IntKind.i64 (std.quo (n * a) (s + p)))), (Filler.val (Value.int IntKind.i64 (0 : Int))), (Filler.val (Value.int IntKind.i64 s)), (Filler.val (Value.int IntKind.i64 (p + n))), (Filler.val (Value.int IntKind.i64 (a + (std.quo (n * a) (s + p))))), (Filler.val (Value.bool h)), (Filler.me (std.mput (Value.string (ByteArray.mk (Array.mk []))) es (Value.string us) (Value.int IntKind.i64 ((std.dint (std.mget (Value.string (ByteArray.mk (Array.mk []))) (Value.int IntKind.i64 (0 : Int)) es (Value.string us))) + (std.quo (n * a) (s + p))))))]))))))) ∧ ((((std.dint (std.mget (Value.string (ByteArray.mk (Array.mk []))) (Value.int IntKind.i64 (0 : Int)) es (Value.string us))) == (0 : Int)) = false) → ((((-9223372036854775808 : Int) ≤ ((std.dint (std.mget (Value.string (ByteArray.mk (Array.mk []))) (Value.int IntKind.i64 (0 : Int)) es (Value.string us))) + (std.quo (n * a) (s + p)))) ∧ (((std.dint (std.mget (Value.string (ByteArray.mk (Array.mk []))) (Value.int IntKind.i64 (0 : Int)) es (Value.string us))) + (std.quo (n * a) (s + p))) ≤ (9223372036854775807 : Int))) ∧ ((((-9223372036854775808 : Int) ≤ (a + (std.quo (n * a) (s + p)))) ∧ ((a + (std.quo (n * a) (s + p))) ≤ (9223372036854775807 : Int))) ∧ ((((-9223372036854775808 : Int) ≤ (p + n)) ∧ ((p + n) ≤ (9223372036854775807 : Int))) ∧ ((mintL u us n s p a h es) = [(Filler.val (Value.int IntKind.i64 (std.quo (n * a) (s + p)))), (Filler.val (Value.int IntKind.i64 (0 : Int))), (Filler.val (Value.int IntKind.i64 s)), (Filler.val (Value.int IntKind.i64 (p + n))), (Filler.val (Value.int IntKind.i64 (a + (std.quo (n * a) (s + p))))), (Filler.val (Value.bool h)), (Filler.me (std.mput (Value.string (ByteArray.mk (Array.mk []))) es (Value.string us) (Value.int IntKind.i64 ((std.dint (std.mget (Value.string (ByteArray.mk (Array.mk []))) (Value.int IntKind.i64 (0 : Int)) es (Value.string us))) + (std.quo (n * a) (s + p))))))])))))))))))))))))))) ∧ (((decide ((0 : Int) < a)) = false) → ((((n == (0 : Int)) = true) → ((mintL u us n s p a h es) = [(Filler.val (Value.int IntKind.i64 (0 : Int))), (Filler.val (Value.int IntKind.i64 (11 : Int))), (Filler.val (Value.int IntKind.i64 s)), (Filler.val (Value.int IntKind.i64 p)), (Filler.val (Value.int IntKind.i64 a)), (Filler.val (Value.bool h)), (Filler.me es)])) ∧ (((n == (0 : Int)) = false) → ((((-9223372036854775808 : Int) ≤ ((1073741824 : Int) - a)) ∧ (((1073741824 : Int) - a) ≤ (9223372036854775807 : Int))) ∧ ((((decide (((1073741824 : Int) - a) < n)) = true) → ((mintL u us n s p a h es) = [(Filler.val (Value.int IntKind.i64 (0 : Int))), (Filler.val (Value.int IntKind.i64 (11 : Int))), (Filler.val (Value.int IntKind.i64 s)), (Filler.val (Value.int IntKind.i64 p)), (Filler.val (Value.int IntKind.i64 a)), (Filler.val (Value.bool h)), (Filler.me es)])) ∧ (((decide (((1073741824 : Int) - a) < n)) = false) → (((((0 : Int) ≤ s) ∧ (s ≤ (1073741824 : Int))) ∧ ((((0 : Int) ≤ p) ∧ (p ≤ (1073741824 : Int))) ∧ ((((0 : Int) ≤ a) ∧ (a ≤ (1073741824 : Int))) ∧ ((s + p) ≤ (1073741824 : Int))))) ∧ ((((-9223372036854775808 : Int) ≤ ((1073741824 : Int) - (s + p))) ∧ (((1073741824 : Int) - (s + p)) ≤ (9223372036854775807 : Int))) ∧ ((((decide (((1073741824 : Int) - (s + p)) < n)) = true) → ((mintL u us n s p a h es) = [(Filler.val (Value.int IntKind.i64 (0 : Int))), (Filler.val (Value.int IntKind.i64 (11 : Int))), (Filler.val (Value.int IntKind.i64 s)), (Filler.val (Value.int IntKind.i64 p)), (Filler.val (Value.int IntKind.i64 a)), (Filler.val (Value.bool h)), (Filler.me es)])) ∧ (((decide (((1073741824 : Int) - (s + p)) < n)) = false) → (((((std.dint (std.mget (Value.string (ByteArray.mk (Array.mk []))) (Value.int IntKind.i64 (0 : Int)) es (Value.string us))) == (0 : Int)) = true) → ((((decide ((30 : Int) ≤ ((List.length es) : Int))) = true) → ((mintL u us n s p a h es) = [(Filler.val (Value.int IntKind.i64 (0 : Int))), (Filler.val (Value.int IntKind.i64 (7 : Int))), (Filler.val (Value.int IntKind.i64 s)), (Filler.val (Value.int IntKind.i64 p)), (Filler.val (Value.int IntKind.i64 a)), (Filler.val (Value.bool h)), (Filler.me es)])) ∧ (((decide ((30 : Int) ≤ ((List.length es) : Int))) = false) → ((((-9223372036854775808 : Int) ≤ ((std.dint (std.mget (Value.string (ByteArray.mk (Array.mk []))) (Value.int IntKind.i64 (0 : Int)) es (Value.string us))) + n)) ∧ (((std.dint (std.mget (Value.string (ByteArray.mk (Array.mk []))) (Value.int IntKind.i64 (0 : Int)) es (Value.string us))) + n) ≤ (9223372036854775807 : Int))) ∧ ((((-9223372036854775808 : Int) ≤ (a + n)) ∧ ((a + n) ≤ (9223372036854775807 : Int))) ∧ ((((-9223372036854775808 : Int) ≤ (p + n)) ∧ ((p + n) ≤ (9223372036854775807 : Int))) ∧ ((mintL u us n s p a h es) = [(Filler.val (Value.int IntKind.i64 n)), (Filler.val (Value.int IntKind.i64 (0 : Int))), (Filler.val (Value.int IntKind.i64 s)), (Filler.val (Value.int IntKind.i64 (p + n))), (Filler.val (Value.int IntKind.i64 (a + n))), (Filler.val (Value.bool h)), (Filler.me (std.mput (Value.string (ByteArray.mk (Array.mk []))) es (Value.string us) (Value.int IntKind.i64 ((std.dint (std.mget (Value.string (ByteArray.mk (Array.mk []))) (Value.int IntKind.i64 (0 : Int)) es (Value.string us))) + n))))]))))))) ∧ ((((std.dint (std.mget (Value.string (ByteArray.mk (Array.mk []))) (Value.int IntKind.i64 (0 : Int)) es (Value.string us))) == (0 : Int)) = false) → ((((-9223372036854775808 : Int) ≤ ((std.dint (std.mget (Value.string (ByteArray.mk (Array.mk []))) (Value.int IntKind.i64 (0 : Int)) es (Value.string us))) + n)) ∧ (((std.dint (std.mget (Value.string (ByteArray.mk (Array.mk []))) (Value.int IntKind.i64 (0 : Int)) es (Value.string us))) + n) ≤ (9223372036854775807 : Int))) ∧ ((((-9223372036854775808 : Int) ≤ (a + n)) ∧ ((a + n) ≤ (9223372036854775807 : Int))) ∧ ((((-9223372036854775808 : Int) ≤ (p + n)) ∧ ((p + n) ≤ (9223372036854775807 : Int))) ∧ ((mintL u us n s p a h es) = [(Filler.val (Value.int IntKind.i64 n)), (Filler.val (Value.int IntKind.i64 (0 : Int))), (Filler.val (Value.int IntKind.i64 s)), (Filler.val (Value.int IntKind.i64 (p + n))), (Filler.val (Value.int IntKind.i64 (a + n))), (Filler.val (Value.bool h)), (Filler.me (std.mput (Value.string (ByteArray.mk (Array.mk []))) es (Value.string us) (Value.int IntKind.i64 ((std.dint (std.mget (Value.string (ByteArray.mk (Array.mk []))) (Value.int IntKind.i64 (0 : Int)) es (Value.string us))) + n))))]))))))))))))))))))))) ∧ (((decide ((0 : Int) < a)) = false) → ((((decide ((0 : Int) < a)) = true) → ((((-9223372036854775808 : Int) ≤ (n * a)) ∧ ((n * a) ≤ (9223372036854775807 : Int))) ∧ (((((0 : Int) ≤ s) ∧ (s ≤ (1073741824 : Int))) ∧ ((((0 : Int) ≤ p) ∧ (p ≤ (1073741824 : Int))) ∧ ((((0 : Int) ≤ a) ∧ (a ≤ (1073741824 : Int))) ∧ ((s + p) ≤ (1073741824 : Int))))) ∧ ((((0 : Int) < (s + p)) ∧ (((-9223372036854775808 : Int) ≤ (n * a)) ∧ ((n * a) ≤ (9223372036854775807 : Int)))) ∧ ((((Option.some (Value.func (Go.Fn.yield 0) (Array.mk [(Value.int IntKind.i64 a)]) (Array.mk []))) = (Option.some (Value.func (Go.Fn.yield 0) (Array.mk [(Value.int IntKind.i64 a)]) (Array.mk [])))) ∧ ((Option.some (Value.func (Go.Fn.yield 0) (Array.mk [(Value.int IntKind.i64 a)]) (Array.mk []))) = (Option.some (Value.func (Go.Fn.yield 0) (Array.mk [(Value.int IntKind.i64 a)]) (Array.mk []))))) ∧ (((((std.quo (n * a) (s + p)) == (0 : Int)) = true) → ((mintL u us n s p a h es) = [(Filler.val (Value.int IntKind.i64 (0 : Int))), (Filler.val (Value.int IntKind.i64 (11 : Int))), (Filler.val (Value.int IntKind.i64 s)), (Filler.val (Value.int IntKind.i64 p)), (Filler.val (Value.int IntKind.i64 a)), (Filler.val (Value.bool h)), (Filler.me es)])) ∧ ((((std.quo (n * a) (s + p)) == (0 : Int)) = false) → ((((-9223372036854775808 : Int) ≤ ((1073741824 : Int) - a)) ∧ (((1073741824 : Int) - a) ≤ (9223372036854775807 : Int))) ∧ ((((decide (((1073741824 : Int) - a) < (std.quo (n * a) (s + p)))) = true) → ((mintL u us n s p a h es) = [(Filler.val (Value.int IntKind.i64 (0 : Int))), (Filler.val (Value.int IntKind.i64 (11 : Int))), (Filler.val (Value.int IntKind.i64 s)), (Filler.val (Value.int IntKind.i64 p)), (Filler.val (Value.int IntKind.i64 a)), (Filler.val (Value.bool h)), (Filler.me es)])) ∧ (((decide (((1073741824 : Int) - a) < (std.quo (n * a) (s + p)))) = false) → (((((0 : Int) ≤ s) ∧ (s ≤ (1073741824 : Int))) ∧ ((((0 : Int) ≤ p) ∧ (p ≤ (1073741824 : Int))) ∧ ((((0 : Int) ≤ a) ∧ (a ≤ (1073741824 : Int))) ∧ ((s + p) ≤ (1073741824 : Int))))) ∧ ((((-9223372036854775808 : Int) ≤ ((1073741824 : Int) - (s + p))) ∧ (((1073741824 : Int) - (s + p)) ≤ (9223372036854775807 : Int))) ∧ ((((decide (((1073741824 : Int) - (s + p)) < n)) = true) → ((mintL u us n s p a h es) = [(Filler.val (Value.int IntKind.i64 (0 : Int))), (Filler.val (Value.int IntKind.i64 (11 : Int))), (Filler.val (Value.int IntKind.i64 s)), (Filler.val (Value.int IntKind.i64 p)), (Filler.val (Value.int IntKind.i64 a)), (Filler.val (Value.bool h)), (Filler.me es)])) ∧ (((decide (((1073741824 : Int) - (s + p)) < n)) = false) → (((((std.dint (std.mget (Value.string (ByteArray.mk (Array.mk []))) (Value.int IntKind.i64 (0 : Int)) es (Value.string us))) == (0 : Int)) = true) → ((((decide ((30 : Int) ≤ ((List.length es) : Int))) = true) → ((mintL u us n s p a h es) = [(Filler.val (Value.int IntKind.i64 (0 : Int))), (Filler.val (Value.int IntKind.i64 (7 : Int))), (Filler.val (Value.int IntKind.i64 s)), (Filler.val (Value.int IntKind.i64 p)), (Filler.val (Value.int IntKind.i64 a)), (Filler.val (Value.bool h)), (Filler.me es)])) ∧ (((decide ((30 : Int) ≤ ((List.length es) : Int))) = false) → ((((-9223372036854775808 : Int) ≤ ((std.dint (std.mget (Value.string (ByteArray.mk (Array.mk []))) (Value.int IntKind.i64 (0 : Int)) es (Value.string us))) + (std.quo (n * a) (s + p)))) ∧ (((std.dint (std.mget (Value.string (ByteArray.mk (Array.mk []))) (Value.int IntKind.i64 (0 : Int)) es (Value.string us))) + (std.quo (n * a) (s + p))) ≤ (9223372036854775807 : Int))) ∧ ((((-9223372036854775808 : Int) ≤ (a + (std.quo (n * a) (s + p)))) ∧ ((a + (std.quo (n * a) (s + p))) ≤ (9223372036854775807 : Int))) ∧ ((((-9223372036854775808 : Int) ≤ (p + n)) ∧ ((p + n) ≤ (9223372036854775807 : Int))) ∧ ((mintL u us n s p a h es) = [(Filler.val (Value.int IntKind.i64 (std.quo (n * a) (s + p)))), (Filler.val (Value.int IntKind.i64 (0 : Int))), (Filler.val (Value.int IntKind.i64 s)), (Filler.val (Value.int IntKind.i64 (p + n))), (Filler.val (Value.int IntKind.i64 (a + (std.quo (n * a) (s + p))))), (Filler.val (Value.bool h)), (Filler.me (std.mput (Value.string (ByteArray.mk (Array.mk []))) es (Value.string us) (Value.int IntKind.i64 ((std.dint (std.mget (Value.string (ByteArray.mk (Array.mk []))) (Value.int IntKind.i64 (0 : Int)) es (Value.string us))) + (std.quo (n * a) (s + p))))))]))))))) ∧ ((((std.dint (std.mget (Value.string (ByteArray.mk (Array.mk []))) (Value.int IntKind.i64 (0 : Int)) es (Value.string us))) == (0 : Int)) = false) → ((((-9223372036854775808 : Int) ≤ ((std.dint (std.mget (Value.string (ByteArray.mk (Array.mk []))) (Value.int IntKind.i64 (0 : Int)) es (Value.string us))) + (std.quo (n * a) (s + p)))) ∧ (((std.dint (std.mget (Value.string (ByteArray.mk (Array.mk []))) (Value.int IntKind.i64 (0 : Int)) es (Value.string us))) + (std.quo (n * a) (s + p))) ≤ (9223372036854775807 : Int))) ∧ ((((-9223372036854775808 : Int) ≤ (a + (std.quo (n * a) (s + p)))) ∧ ((a + (std.quo (n * a) (s + p))) ≤ (9223372036854775807 : Int))) ∧ ((((-9223372036854775808 : Int) ≤ (p + n)) ∧ ((p + n) ≤ (9223372036854775807 : Int))) ∧ ((mintL u us n s p a h es) = [(Filler.val (Value.int IntKind.i64 (std.quo (n * a) (s + p)))), (Filler.val (Value.int IntKind.i64 (0 : Int))), (Filler.val (Value.int IntKind.i64 s)), (Filler.val (Value.int IntKind.i64 (p + n))), (Filler.val (Value.int IntKind.i64 (a + (std.quo (n * a) (s + p))))), (Filler.val (Value.bool h)), (Filler.me (std.mput (Value.string (ByteArray.mk (Array.mk []))) es (Value.string us) (Value.int IntKind.i64 ((std.dint (std.mget (Value.string (ByteArray.mk (Array.mk []))) (Value.int IntKind.i64 (0 : Int)) es (Value.string us))) + (std.quo (n * a) (s + p))))))])))))))))))))))))))) ∧ (((decide ((0 : Int) < a)) = false) → ((((n == (0 : Int)) = true) → ((mintL u us n s p a h es) = [(Filler.val (Value.int IntKind.i64 (0 : Int))), (Filler.val (Value.int IntKind.i64 (11 : Int))), (Filler.val (Value.int IntKind.i64 s)), (Filler.val (Value.int IntKind.i64 p)), (Filler.val (Value.int IntKind.i64 a)), (Filler.val (Value.bool h)), (Filler.me es)])) ∧ (((n == (0 : Int)) = false) → ((((-9223372036854775808 : Int) ≤ ((1073741824 : Int) - a)) ∧ (((1073741824 : Int) - a) ≤ (9223372036854775807 : Int))) ∧ ((((decide (((1073741824 : Int) - a) < n)) = true) → ((mintL u us n s p a h es) = [(Filler.val (Value.int IntKind.i64 (0 : Int))), (Filler.val (Value.int IntKind.i64 (11 : Int))), (Filler.val (Value.int IntKind.i64 s)), (Filler.val (Value.int IntKind.i64 p)), (Filler.val (Value.int IntKind.i64 a)), (Filler.val (Value.bool h)), (Filler.me es)])) ∧ (((decide (((1073741824 : Int) - a) < n)) = false) → (((((0 : Int) ≤ s) ∧ (s ≤ (1073741824 : Int))) ∧ ((((0 : Int) ≤ p) ∧ (p ≤ (1073741824 : Int))) ∧ ((((0 : Int) ≤ a) ∧ (a ≤ (1073741824 : Int))) ∧ ((s + p) ≤ (1073741824 : Int))))) ∧ ((((-9223372036854775808 : Int) ≤ ((1073741824 : Int) - (s + p))) ∧ (((1073741824 : Int) - (s + p)) ≤ (9223372036854775807 : Int))) ∧ ((((decide (((1073741824 : Int) - (s + p)) < n)) = true) → ((mintL u us n s p a h es) = [(Filler.val (Value.int IntKind.i64 (0 : Int))), (Filler.val (Value.int IntKind.i64 (11 : Int))), (Filler.val (Value.int IntKind.i64 s)), (Filler.val (Value.int IntKind.i64 p)), (Filler.val (Value.int IntKind.i64 a)), (Filler.val (Value.bool h)), (Filler.me es)])) ∧ (((decide (((1073741824 : Int) - (s + p)) < n)) = false) → (((((std.dint (std.mget (Value.string (ByteArray.mk (Array.mk []))) (Value.int IntKind.i64 (0 : Int)) es (Value.string us))) == (0 : Int)) = true) → ((((decide ((30 : Int) ≤ ((List.length es) : Int))) = true) → ((mintL u us n s p a h es) = [(Filler.val (Value.int IntKind.i64 (0 : Int))), (Filler.val (Value.int IntKind.i64 (7 : Int))), (Filler.val (Value.int IntKind.i64 s)), (Filler.val (Value.int IntKind.i64 p)), (Filler.val (Value.int IntKind.i64 a)), (Filler.val (Value.bool h)), (Filler.me es)])) ∧ (((decide ((30 : Int) ≤ ((List.length es) : Int))) = false) → ((((-9223372036854775808 : Int) ≤ ((std.dint (std.mget (Value.string (ByteArray.mk (Array.mk []))) (Value.int IntKind.i64 (0 : Int)) es (Value.string us))) + n)) ∧ (((std.dint (std.mget (Value.string (ByteArray.mk (Array.mk []))) (Value.int IntKind.i64 (0 : Int)) es (Value.string us))) + n) ≤ (9223372036854775807 : Int))) ∧ ((((-9223372036854775808 : Int) ≤ (a + n)) ∧ ((a + n) ≤ (9223372036854775807 : Int))) ∧ ((((-9223372036854775808 : Int) ≤ (p + n)) ∧ ((p + n) ≤ (9223372036854775807 : Int))) ∧ ((mintL u us n s p a h es) = [(Filler.val (Value.int IntKind.i64 n)), (Filler.val (Value.int IntKind.i64 (0 : Int))), (Filler.val (Value.int IntKind.i64 s)), (Filler.val (Value.int IntKind.i64 (p + n))), (Filler.val (Value.int IntKind.i64 (a + n))), (Filler.val (Value.bool h)), (Filler.me (std.mput (Value.string (ByteArray.mk (Array.mk []))) es (Value.string us) (Value.int IntKind.i64 ((std.dint (std.mget (Value.string (ByteArray.mk (Array.mk []))) (Value.int IntKind.i64 (0 : Int)) es (Value.string us))) + n))))]))))))) ∧ ((((std.dint (std.mget (Value.string (ByteArray.mk (Array.mk []))) (Value.int IntKind.i64 (0 : Int)) es (Value.string us))) == (0 : Int)) = false) → ((((-9223372036854775808 : Int) ≤ ((std.dint (std.mget (Value.string (ByteArray.mk (Array.mk []))) (Value.int IntKind.i64 (0 : Int)) es (Value.string us))) + n)) ∧ (((std.dint (std.mget (Value.string (ByteArray.mk (Array.mk []))) (Value.int IntKind.i64 (0 : Int)) es (Value.string us))) + n) ≤ (9223372036854775807 : Int))) ∧ ((((-9223372036854775808 : Int) ≤ (a + n)) ∧ ((a + n) ≤ (9223372036854775807 : Int))) ∧ ((((-9223372036854775808 : Int) ≤ (p + n)) ∧ ((p + n) ≤ (9223372036854775807 : Int))) ∧ ((mintL u us n s p a h es) = [(Filler.val (Value.int IntKind.i64 n)), (Filler.val (Value.int IntKind.i64 (0 : Int))), (Filler.val (Value.int IntKind.i64 s)), (Filler.val (Value.int IntKind.i64 (p + n))), (Filler.val (Value.int IntKind.i64 (a + n))), (Filler.val (Value.bool h)), (Filler.me (std.mput (Value.string (ByteArray.mk (Array.mk []))) es (Value.string us) (Value.int IntKind.i64 ((std.dint (std.mget (Value.string (ByteArray.mk (Array.mk []))) (Value.int IntKind.i64 (0 : Int)) es (Value.string us))) + n))))])))))))))))))))))))))) ∧ (((u.may us n) = false) → ((mintL u us n s p a h es) = [(Filler.val (Value.int IntKind.i64 (0 : Int))), (Filler.val (Value.int IntKind.i64 (1 : Int))), (Filler.val (Value.int IntKind.i64 s)), (Filler.val (Value.int IntKind.i64 p)), (Filler.val (Value.int IntKind.i64 a)), (Filler.val (Value.bool h)), (Filler.me es)])))) := by kernel_rfl
set_option maxRecDepth 100000 in
theorem red_vc (u : RtF) (us : BS) (n s p a : Int) (h : Bool) (es : Ents) : runW std (mrCon std u) 60 noL (redO u) 13 Try.f13 (us, n, s, p, a, h, es, ()) =
  (True ∧ ((((u.may us n) = true) → (((h = true) → ((redL u us n s p a h es) = [(Filler.val (Value.int IntKind.i64 (0 : Int))), (Filler.val (Value.int IntKind.i64 (10 : Int))), (Filler.val (Value.int IntKind.i64 s)), (Filler.val (Value.int IntKind.i64 p)), (Filler.val (Value.int IntKind.i64 a)), (Filler.val (Value.bool h)), (Filler.me es)])) ∧ ((h = false) → (((((std.dint (std.mget (Value.string (ByteArray.mk (Array.mk []))) (Value.int IntKind.i64 (0 : Int)) es (Value.string us))) == (0 : Int)) = true) → ((redL u us n s p a h es) = [(Filler.val (Value.int IntKind.i64 (0 : Int))), (Filler.val (Value.int IntKind.i64 (3 : Int))), (Filler.val (Value.int IntKind.i64 s)), (Filler.val (Value.int IntKind.i64 p)), (Filler.val (Value.int IntKind.i64 a)), (Filler.val (Value.bool h)), (Filler.me es)])) ∧ ((((std.dint (std.mget (Value.string (ByteArray.mk (Array.mk []))) (Value.int IntKind.i64 (0 : Int)) es (Value.string us))) == (0 : Int)) = false) → ((((decide ((std.dint (std.mget (Value.string (ByteArray.mk (Array.mk []))) (Value.int IntKind.i64 (0 : Int)) es (Value.string us))) < n)) = true) → ((redL u us n s p a h es) = [(Filler.val (Value.int IntKind.i64 (0 : Int))), (Filler.val (Value.int IntKind.i64 (11 : Int))), (Filler.val (Value.int IntKind.i64 s)), (Filler.val (Value.int IntKind.i64 p)), (Filler.val (Value.int IntKind.i64 a)), (Filler.val (Value.bool h)), (Filler.me es)])) ∧ (((decide ((std.dint (std.mget (Value.string (ByteArray.mk (Array.mk []))) (Value.int IntKind.i64 (0 : Int)) es (Value.string us))) < n)) = false) → (((((0 : Int) ≤ s) ∧ (s ≤ (1073741824 : Int))) ∧ ((((0 : Int) ≤ p) ∧ (p ≤ (1073741824 : Int))) ∧ ((((0 : Int) ≤ a) ∧ (a ≤ (1073741824 : Int))) ∧ ((s + p) ≤ (1073741824 : Int))))) ∧ ((((-9223372036854775808 : Int) ≤ (n * (s + p))) ∧ ((n * (s + p)) ≤ (9223372036854775807 : Int))) ∧ ((((0 : Int) < a) ∧ (((-9223372036854775808 : Int) ≤ (n * (s + p))) ∧ ((n * (s + p)) ≤ (9223372036854775807 : Int)))) ∧ ((((Option.some (Value.func (Go.Fn.yield 0) (Array.mk [(Value.int IntKind.i64 a)]) (Array.mk []))) = (Option.some (Value.func (Go.Fn.yield 0) (Array.mk [(Value.int IntKind.i64 a)]) (Array.mk [])))) ∧ ((Option.some (Value.func (Go.Fn.yield 0) (Array.mk [(Value.int IntKind.i64 a)]) (Array.mk []))) = (Option.some (Value.func (Go.Fn.yield 0) (Array.mk [(Value.int IntKind.i64 a)]) (Array.mk []))))) ∧ ((((decide (p < (std.quo (n * (s + p)) a))) = true) → ((redL u us n s p a h es) = [(Filler.val (Value.int IntKind.i64 (0 : Int))), (Filler.val (Value.int IntKind.i64 (11 : Int))), (Filler.val (Value.int IntKind.i64 s)), (Filler.val (Value.int IntKind.i64 p)), (Filler.val (Value.int IntKind.i64 a)), (Filler.val (Value.bool h)), (Filler.me es)])) ∧ (((decide (p < (std.quo (n * (s + p)) a))) = false) → ((((-9223372036854775808 : Int) ≤ ((std.dint (std.mget (Value.string (ByteArray.mk (Array.mk []))) (Value.int IntKind.i64 (0 : Int)) es (Value.string us))) - n)) ∧ (((std.dint (std.mget (Value.string (ByteArray.mk (Array.mk []))) (Value.int IntKind.i64 (0 : Int)) es (Value.string us))) - n) ≤ (9223372036854775807 : Int))) ∧ ((((n == (std.dint (std.mget (Value.string (ByteArray.mk (Array.mk []))) (Value.int IntKind.i64 (0 : Int)) es (Value.string us)))) = true) → ((((-9223372036854775808 : Int) ≤ (a - n)) ∧ ((a - n) ≤ (9223372036854775807 : Int))) ∧ ((((-9223372036854775808 : Int) ≤ (p - (std.quo (n * (s + p)) a))) ∧ ((p - (std.quo (n * (s + p)) a)) ≤ (9223372036854775807 : Int))) ∧ ((redL u us n s p a h es) = [(Filler.val (Value.int IntKind.i64 (std.quo (n * (s + p)) a))), (Filler.val (Value.int IntKind.i64 (0 : Int))), (Filler.val (Value.int IntKind.i64 s)), (Filler.val (Value.int IntKind.i64 (p - (std.quo (n * (s + p)) a)))), (Filler.val (Value.int IntKind.i64 (a - n))), (Filler.val (Value.bool h)), (Filler.me (std.mdel (Value.string (ByteArray.mk (Array.mk []))) (std.mput (Value.string (ByteArray.mk (Array.mk []))) es (Value.string us) (Value.int IntKind.i64 ((std.dint (std.mget (Value.string (ByteArray.mk (Array.mk []))) (Value.int IntKind.i64 (0 : Int)) es (Value.string us))) - n))) (Value.string us)))])))) ∧ (((n == (std.dint (std.mget (Value.string (ByteArray.mk (Array.mk []))) (Value.int IntKind.i64 (0 : Int)) es (Value.string us)))) = false) → ((((-9223372036854775808 : Int) ≤ (a - n)) ∧ ((a - n) ≤ (9223372036854775807 : Int))) ∧ ((((-9223372036854775808 : Int) ≤ (p - (std.quo (n * (s + p)) a))) ∧ ((p - (std.quo (n * (s + p)) a)) ≤ (9223372036854775807 : Int))) ∧ ((redL u us n s p a h es) = [(Filler.val (Value.int IntKind.i64 (std.quo (n * (s + p)) a))), (Filler.val (Value.int IntKind.i64 (0 : Int))), (Filler.val (Value.int IntKind.i64 s)), (Filler.val (Value.int IntKind.i64 (p - (std.quo (n * (s + p)) a)))), (Filler.val (Value.int IntKind.i64 (a - n))), (Filler.val (Value.bool h)), (Filler.me (std.mput (Value.string (ByteArray.mk (Array.mk []))) es (Value.string us) (Value.int IntKind.i64 ((std.dint (std.mget (Value.string (ByteArray.mk (Array.mk []))) (Value.int IntKind.i64 (0 : Int)) es (Value.string us))) - n))))]))))))))))))))))))) ∧ (((u.may us n) = false) → ((redL u us n s p a h es) = [(Filler.val (Value.int IntKind.i64 (0 : Int))), (Filler.val (Value.int IntKind.i64 (1 : Int))), (Filler.val (Value.int IntKind.i64 s)), (Filler.val (Value.int IntKind.i64 p)), (Filler.val (Value.int IntKind.i64 a)), (Filler.val (Value.bool h)), (Filler.me es)])))) := by kernel_rfl
set_option maxRecDepth 100000 in
theorem rmint_vc (u : RtF) (us : BS) (n s p a : Int) (h : Bool) (es : Ents) : runW std noCon 60 noL (rmintO u) 23 Try.f23 (us, n, s, p, a, h, es, ()) =
  ((((-9223372036854775808 : Int) ≤ (s + p)) ∧ ((s + p) ≤ (9223372036854775807 : Int))) ∧ ((((decide (((std.slen us) : Int) < (1 : Int))) = true) → ((mintL u us n s p a h es) = [(Filler.val (Value.int IntKind.i64 (0 : Int))), (Filler.val (Value.int IntKind.i64 (1 : Int))), (Filler.val (Value.int IntKind.i64 s)), (Filler.val (Value.int IntKind.i64 p)), (Filler.val (Value.int IntKind.i64 a)), (Filler.val (Value.bool h)), (Filler.me es)])) ∧ (((decide (((std.slen us) : Int) < (1 : Int))) = false) → ((((decide ((16 : Int) < ((std.slen us) : Int))) = true) → ((mintL u us n s p a h es) = [(Filler.val (Value.int IntKind.i64 (0 : Int))), (Filler.val (Value.int IntKind.i64 (1 : Int))), (Filler.val (Value.int IntKind.i64 s)), (Filler.val (Value.int IntKind.i64 p)), (Filler.val (Value.int IntKind.i64 a)), (Filler.val (Value.bool h)), (Filler.me es)])) ∧ (((decide ((16 : Int) < ((std.slen us) : Int))) = false) → ((((decide (n < (1 : Int))) = true) → ((mintL u us n s p a h es) = [(Filler.val (Value.int IntKind.i64 (0 : Int))), (Filler.val (Value.int IntKind.i64 (1 : Int))), (Filler.val (Value.int IntKind.i64 s)), (Filler.val (Value.int IntKind.i64 p)), (Filler.val (Value.int IntKind.i64 a)), (Filler.val (Value.bool h)), (Filler.me es)])) ∧ (((decide (n < (1 : Int))) = false) → ((((decide ((1073741824 : Int) < n)) = true) → ((mintL u us n s p a h es) = [(Filler.val (Value.int IntKind.i64 (0 : Int))), (Filler.val (Value.int IntKind.i64 (1 : Int))), (Filler.val (Value.int IntKind.i64 s)), (Filler.val (Value.int IntKind.i64 p)), (Filler.val (Value.int IntKind.i64 a)), (Filler.val (Value.bool h)), (Filler.me es)])) ∧ (((decide ((1073741824 : Int) < n)) = false) → (((h = true) → ((mintL u us n s p a h es) = [(Filler.val (Value.int IntKind.i64 (0 : Int))), (Filler.val (Value.int IntKind.i64 (10 : Int))), (Filler.val (Value.int IntKind.i64 s)), (Filler.val (Value.int IntKind.i64 p)), (Filler.val (Value.int IntKind.i64 a)), (Filler.val (Value.bool h)), (Filler.me es)])) ∧ ((h = false) → ((((decide ((0 : Int) < a)) = true) → (((((s + p) == (0 : Int)) = true) → ((mintL u us n s p a h es) = [(Filler.val (Value.int IntKind.i64 (0 : Int))), (Filler.val (Value.int IntKind.i64 (10 : Int))), (Filler.val (Value.int IntKind.i64 s)), (Filler.val (Value.int IntKind.i64 p)), (Filler.val (Value.int IntKind.i64 a)), (Filler.val (Value.bool h)), (Filler.me es)])) ∧ ((((s + p) == (0 : Int)) = false) → ((((decide ((0 : Int) < a)) = true) → ((((-9223372036854775808 : Int) ≤ (n * a)) ∧ ((n * a) ≤ (9223372036854775807 : Int))) ∧ ((((0 : Int) < (s + p)) ∧ (((-9223372036854775808 : Int) ≤ (n * a)) ∧ ((n * a) ≤ (9223372036854775807 : Int)))) ∧ ((((decide ((std.quo (n * a) (s + p)) < (1 : Int))) = true) → ((mintL u us n s p a h es) = [(Filler.val (Value.int IntKind.i64 (0 : Int))), (Filler.val (Value.int IntKind.i64 (11 : Int))), (Filler.val (Value.int IntKind.i64 s)), (Filler.val (Value.int IntKind.i64 p)), (Filler.val (Value.int IntKind.i64 a)), (Filler.val (Value.bool h)), (Filler.me es)])) ∧ (((decide ((std.quo (n * a) (s + p)) < (1 : Int))) = false) → ((((-9223372036854775808 : Int) ≤ (a + (std.quo (n * a) (s + p)))) ∧ ((a + (std.quo (n * a) (s + p))) ≤ (9223372036854775807 : Int))) ∧ ((((decide ((1073741824 : Int) < (a + (std.quo (n * a) (s + p))))) = true) → ((mintL u us n s p a h es) = [(Filler.val (Value.int IntKind.i64 (0 : Int))), (Filler.val (Value.int IntKind.i64 (11 : Int))), (Filler.val (Value.int IntKind.i64 s)), (Filler.val (Value.int IntKind.i64 p)), (Filler.val (Value.int IntKind.i64 a)), (Filler.val (Value.bool h)), (Filler.me es)])) ∧ (((decide ((1073741824 : Int) < (a + (std.quo (n * a) (s + p))))) = false) → ((((-9223372036854775808 : Int) ≤ ((s + p) + n)) ∧ (((s + p) + n) ≤ (9223372036854775807 : Int))) ∧ ((((decide ((1073741824 : Int) < ((s + p) + n))) = true) → ((mintL u us n s p a h es) = [(Filler.val (Value.int IntKind.i64 (0 : Int))), (Filler.val (Value.int IntKind.i64 (11 : Int))), (Filler.val (Value.int IntKind.i64 s)), (Filler.val (Value.int IntKind.i64 p)), (Filler.val (Value.int IntKind.i64 a)), (Filler.val (Value.bool h)), (Filler.me es)])) ∧ (((decide ((1073741824 : Int) < ((s + p) + n))) = false) → ((((std.mhas (Value.string (ByteArray.mk (Array.mk []))) es (Value.string us)) = true) → ((((-9223372036854775808 : Int) ≤ (p + n)) ∧ ((p + n) ≤ (9223372036854775807 : Int))) ∧ ((((-9223372036854775808 : Int) ≤ (a + (std.quo (n * a) (s + p)))) ∧ ((a + (std.quo (n * a) (s + p))) ≤ (9223372036854775807 : Int))) ∧ ((((-9223372036854775808 : Int) ≤ ((std.dint (std.mget (Value.string (ByteArray.mk (Array.mk []))) (Value.int IntKind.i64 (0 : Int)) es (Value.string us))) + (std.quo (n * a) (s + p)))) ∧ (((std.dint (std.mget (Value.string (ByteArray.mk (Array.mk []))) (Value.int IntKind.i64 (0 : Int)) es (Value.string us))) + (std.quo (n * a) (s + p))) ≤ (9223372036854775807 : Int))) ∧ ((mintL u us n s p a h es) = [(Filler.val (Value.int IntKind.i64 (std.quo (n * a) (s + p)))), (Filler.val (Value.int IntKind.i64 (0 : Int))), (Filler.val (Value.int IntKind.i64 s)), (Filler.val (Value.int IntKind.i64 (p + n))), (Filler.val (Value.int IntKind.i64 (a + (std.quo (n * a) (s + p))))), (Filler.val (Value.bool h)), (Filler.me (std.mput (Value.string (ByteArray.mk (Array.mk []))) es (Value.string us) (Value.int IntKind.i64 ((std.dint (std.mget (Value.string (ByteArray.mk (Array.mk []))) (Value.int IntKind.i64 (0 : Int)) es (Value.string us))) + (std.quo (n * a) (s + p))))))]))))) ∧ (((std.mhas (Value.string (ByteArray.mk (Array.mk []))) es (Value.string us)) = false) → ((((decide ((30 : Int) ≤ ((List.length es) : Int))) = true) → ((mintL u us n s p a h es) = [(Filler.val (Value.int IntKind.i64 (0 : Int))), (Filler.val (Value.int IntKind.i64 (7 : Int))), (Filler.val (Value.int IntKind.i64 s)), (Filler.val (Value.int IntKind.i64 p)), (Filler.val (Value.int IntKind.i64 a)), (Filler.val (Value.bool h)), (Filler.me es)])) ∧ (((decide ((30 : Int) ≤ ((List.length es) : Int))) = false) → ((((-9223372036854775808 : Int) ≤ (p + n)) ∧ ((p + n) ≤ (9223372036854775807 : Int))) ∧ ((((-9223372036854775808 : Int) ≤ (a + (std.quo (n * a) (s + p)))) ∧ ((a + (std.quo (n * a) (s + p))) ≤ (9223372036854775807 : Int))) ∧ ((((-9223372036854775808 : Int) ≤ ((std.dint (std.mget (Value.string (ByteArray.mk (Array.mk []))) (Value.int IntKind.i64 (0 : Int)) es (Value.string us))) + (std.quo (n * a) (s + p)))) ∧ (((std.dint (std.mget (Value.string (ByteArray.mk (Array.mk []))) (Value.int IntKind.i64 (0 : Int)) es (Value.string us))) + (std.quo (n * a) (s + p))) ≤ (9223372036854775807 : Int))) ∧ ((mintL u us n s p a h es) = [(Filler.val (Value.int IntKind.i64 (std.quo (n * a) (s + p)))), (Filler.val (Value.int IntKind.i64 (0 : Int))), (Filler.val (Value.int IntKind.i64 s)), (Filler.val (Value.int IntKind.i64 (p + n))), (Filler.val (Value.int IntKind.i64 (a + (std.quo (n * a) (s + p))))), (Filler.val (Value.bool h)), (Filler.me (std.mput (Value.string (ByteArray.mk (Array.mk []))) es (Value.string us) (Value.int IntKind.i64 ((std.dint (std.mget (Value.string (ByteArray.mk (Array.mk []))) (Value.int IntKind.i64 (0 : Int)) es (Value.string us))) + (std.quo (n * a) (s + p))))))]))))))))))))))))))) ∧ (((decide ((0 : Int) < a)) = false) → ((((decide (n < (1 : Int))) = true) → ((mintL u us n s p a h es) = [(Filler.val (Value.int IntKind.i64 (0 : Int))), (Filler.val (Value.int IntKind.i64 (11 : Int))), (Filler.val (Value.int IntKind.i64 s)), (Filler.val (Value.int IntKind.i64 p)), (Filler.val (Value.int IntKind.i64 a)), (Filler.val (Value.bool h)), (Filler.me es)])) ∧ (((decide (n < (1 : Int))) = false) → ((((-9223372036854775808 : Int) ≤ (a + n)) ∧ ((a + n) ≤ (9223372036854775807 : Int))) ∧ ((((decide ((1073741824 : Int) < (a + n))) = true) → ((mintL u us n s p a h es) = [(Filler.val (Value.int IntKind.i64 (0 : Int))), (Filler.val (Value.int IntKind.i64 (11 : Int))), (Filler.val (Value.int IntKind.i64 s)), (Filler.val (Value.int IntKind.i64 p)), (Filler.val (Value.int IntKind.i64 a)), (Filler.val (Value.bool h)), (Filler.me es)])) ∧ (((decide ((1073741824 : Int) < (a + n))) = false) → ((((-9223372036854775808 : Int) ≤ ((s + p) + n)) ∧ (((s + p) + n) ≤ (9223372036854775807 : Int))) ∧ ((((decide ((1073741824 : Int) < ((s + p) + n))) = true) → ((mintL u us n s p a h es) = [(Filler.val (Value.int IntKind.i64 (0 : Int))), (Filler.val (Value.int IntKind.i64 (11 : Int))), (Filler.val (Value.int IntKind.i64 s)), (Filler.val (Value.int IntKind.i64 p)), (Filler.val (Value.int IntKind.i64 a)), (Filler.val (Value.bool h)), (Filler.me es)])) ∧ (((decide ((1073741824 : Int) < ((s + p) + n))) = false) → ((((std.mhas (Value.string (ByteArray.mk (Array.mk []))) es (Value.string us)) = true) → ((((-9223372036854775808 : Int) ≤ (p + n)) ∧ ((p + n) ≤ (9223372036854775807 : Int))) ∧ ((((-9223372036854775808 : Int) ≤ (a + n)) ∧ ((a + n) ≤ (9223372036854775807 : Int))) ∧ ((((-9223372036854775808 : Int) ≤ ((std.dint (std.mget (Value.string (ByteArray.mk (Array.mk []))) (Value.int IntKind.i64 (0 : Int)) es (Value.string us))) + n)) ∧ (((std.dint (std.mget (Value.string (ByteArray.mk (Array.mk []))) (Value.int IntKind.i64 (0 : Int)) es (Value.string us))) + n) ≤ (9223372036854775807 : Int))) ∧ ((mintL u us n s p a h es) = [(Filler.val (Value.int IntKind.i64 n)), (Filler.val (Value.int IntKind.i64 (0 : Int))), (Filler.val (Value.int IntKind.i64 s)), (Filler.val (Value.int IntKind.i64 (p + n))), (Filler.val (Value.int IntKind.i64 (a + n))), (Filler.val (Value.bool h)), (Filler.me (std.mput (Value.string (ByteArray.mk (Array.mk []))) es (Value.string us) (Value.int IntKind.i64 ((std.dint (std.mget (Value.string (ByteArray.mk (Array.mk []))) (Value.int IntKind.i64 (0 : Int)) es (Value.string us))) + n))))]))))) ∧ (((std.mhas (Value.string (ByteArray.mk (Array.mk []))) es (Value.string us)) = false) → ((((decide ((30 : Int) ≤ ((List.length es) : Int))) = true) → ((mintL u us n s p a h es) = [(Filler.val (Value.int IntKind.i64 (0 : Int))), (Filler.val (Value.int IntKind.i64 (7 : Int))), (Filler.val (Value.int IntKind.i64 s)), (Filler.val (Value.int IntKind.i64 p)), (Filler.val (Value.int IntKind.i64 a)), (Filler.val (Value.bool h)), (Filler.me es)])) ∧ (((decide ((30 : Int) ≤ ((List.length es) : Int))) = false) → ((((-9223372036854775808 : Int) ≤ (p + n)) ∧ ((p + n) ≤ (9223372036854775807 : Int))) ∧ ((((-9223372036854775808 : Int) ≤ (a + n)) ∧ ((a + n) ≤ (9223372036854775807 : Int))) ∧ ((((-9223372036854775808 : Int) ≤ ((std.dint (std.mget (Value.string (ByteArray.mk (Array.mk []))) (Value.int IntKind.i64 (0 : Int)) es (Value.string us))) + n)) ∧ (((std.dint (std.mget (Value.string (ByteArray.mk (Array.mk []))) (Value.int IntKind.i64 (0 : Int)) es (Value.string us))) + n) ≤ (9223372036854775807 : Int))) ∧ ((mintL u us n s p a h es) = [(Filler.val (Value.int IntKind.i64 n)), (Filler.val (Value.int IntKind.i64 (0 : Int))), (Filler.val (Value.int IntKind.i64 s)), (Filler.val (Value.int IntKind.i64 (p + n))), (Filler.val (Value.int IntKind.i64 (a + n))), (Filler.val (Value.bool h)), (Filler.me (std.mput (Value.string (ByteArray.mk (Array.mk []))) es (Value.string us) (Value.int IntKind.i64 ((std.dint (std.mget (Value.string (ByteArray.mk (Array.mk []))) (Value.int IntKind.i64 (0 : Int)) es (Value.string us))) + n))))]))))))))))))))))))))) ∧ (((decide ((0 : Int) < a)) = false) → ((((decide ((0 : Int) < a)) = true) → ((((-9223372036854775808 : Int) ≤ (n * a)) ∧ ((n * a) ≤ (9223372036854775807 : Int))) ∧ ((((0 : Int) < (s + p)) ∧ (((-9223372036854775808 : Int) ≤ (n * a)) ∧ ((n * a) ≤ (9223372036854775807 : Int)))) ∧ ((((decide ((std.quo (n * a) (s + p)) < (1 : Int))) = true) → ((mintL u us n s p a h es) = [(Filler.val (Value.int IntKind.i64 (0 : Int))), (Filler.val (Value.int IntKind.i64 (11 : Int))), (Filler.val (Value.int IntKind.i64 s)), (Filler.val (Value.int IntKind.i64 p)), (Filler.val (Value.int IntKind.i64 a)), (Filler.val (Value.bool h)), (Filler.me es)])) ∧ (((decide ((std.quo (n * a) (s + p)) < (1 : Int))) = false) → ((((-9223372036854775808 : Int) ≤ (a + (std.quo (n * a) (s + p)))) ∧ ((a + (std.quo (n * a) (s + p))) ≤ (9223372036854775807 : Int))) ∧ ((((decide ((1073741824 : Int) < (a + (std.quo (n * a) (s + p))))) = true) → ((mintL u us n s p a h es) = [(Filler.val (Value.int IntKind.i64 (0 : Int))), (Filler.val (Value.int IntKind.i64 (11 : Int))), (Filler.val (Value.int IntKind.i64 s)), (Filler.val (Value.int IntKind.i64 p)), (Filler.val (Value.int IntKind.i64 a)), (Filler.val (Value.bool h)), (Filler.me es)])) ∧ (((decide ((1073741824 : Int) < (a + (std.quo (n * a) (s + p))))) = false) → ((((-9223372036854775808 : Int) ≤ ((s + p) + n)) ∧ (((s + p) + n) ≤ (9223372036854775807 : Int))) ∧ ((((decide ((1073741824 : Int) < ((s + p) + n))) = true) → ((mintL u us n s p a h es) = [(Filler.val (Value.int IntKind.i64 (0 : Int))), (Filler.val (Value.int IntKind.i64 (11 : Int))), (Filler.val (Value.int IntKind.i64 s)), (Filler.val (Value.int IntKind.i64 p)), (Filler.val (Value.int IntKind.i64 a)), (Filler.val (Value.bool h)), (Filler.me es)])) ∧ (((decide ((1073741824 : Int) < ((s + p) + n))) = false) → ((((std.mhas (Value.string (ByteArray.mk (Array.mk []))) es (Value.string us)) = true) → ((((-9223372036854775808 : Int) ≤ (p + n)) ∧ ((p + n) ≤ (9223372036854775807 : Int))) ∧ ((((-9223372036854775808 : Int) ≤ (a + (std.quo (n * a) (s + p)))) ∧ ((a + (std.quo (n * a) (s + p))) ≤ (9223372036854775807 : Int))) ∧ ((((-9223372036854775808 : Int) ≤ ((std.dint (std.mget (Value.string (ByteArray.mk (Array.mk []))) (Value.int IntKind.i64 (0 : Int)) es (Value.string us))) + (std.quo (n * a) (s + p)))) ∧ (((std.dint (std.mget (Value.string (ByteArray.mk (Array.mk []))) (Value.int IntKind.i64 (0 : Int)) es (Value.string us))) + (std.quo (n * a) (s + p))) ≤ (9223372036854775807 : Int))) ∧ ((mintL u us n s p a h es) = [(Filler.val (Value.int IntKind.i64 (std.quo (n * a) (s + p)))), (Filler.val (Value.int IntKind.i64 (0 : Int))), (Filler.val (Value.int IntKind.i64 s)), (Filler.val (Value.int IntKind.i64 (p + n))), (Filler.val (Value.int IntKind.i64 (a + (std.quo (n * a) (s + p))))), (Filler.val (Value.bool h)), (Filler.me (std.mput (Value.string (ByteArray.mk (Array.mk []))) es (Value.string us) (Value.int IntKind.i64 ((std.dint (std.mget (Value.string (ByteArray.mk (Array.mk []))) (Value.int IntKind.i64 (0 : Int)) es (Value.string us))) + (std.quo (n * a) (s + p))))))]))))) ∧ (((std.mhas (Value.string (ByteArray.mk (Array.mk []))) es (Value.string us)) = false) → ((((decide ((30 : Int) ≤ ((List.length es) : Int))) = true) → ((mintL u us n s p a h es) = [(Filler.val (Value.int IntKind.i64 (0 : Int))), (Filler.val (Value.int IntKind.i64 (7 : Int))), (Filler.val (Value.int IntKind.i64 s)), (Filler.val (Value.int IntKind.i64 p)), (Filler.val (Value.int IntKind.i64 a)), (Filler.val (Value.bool h)), (Filler.me es)])) ∧ (((decide ((30 : Int) ≤ ((List.length es) : Int))) = false) → ((((-9223372036854775808 : Int) ≤ (p + n)) ∧ ((p + n) ≤ (9223372036854775807 : Int))) ∧ ((((-9223372036854775808 : Int) ≤ (a + (std.quo (n * a) (s + p)))) ∧ ((a + (std.quo (n * a) (s + p))) ≤ (9223372036854775807 : Int))) ∧ ((((-9223372036854775808 : Int) ≤ ((std.dint (std.mget (Value.string (ByteArray.mk (Array.mk []))) (Value.int IntKind.i64 (0 : Int)) es (Value.string us))) + (std.quo (n * a) (s + p)))) ∧ (((std.dint (std.mget (Value.string (ByteArray.mk (Array.mk []))) (Value.int IntKind.i64 (0 : Int)) es (Value.string us))) + (std.quo (n * a) (s + p))) ≤ (9223372036854775807 : Int))) ∧ ((mintL u us n s p a h es) = [(Filler.val (Value.int IntKind.i64 (std.quo (n * a) (s + p)))), (Filler.val (Value.int IntKind.i64 (0 : Int))), (Filler.val (Value.int IntKind.i64 s)), (Filler.val (Value.int IntKind.i64 (p + n))), (Filler.val (Value.int IntKind.i64 (a + (std.quo (n * a) (s + p))))), (Filler.val (Value.bool h)), (Filler.me (std.mput (Value.string (ByteArray.mk (Array.mk []))) es (Value.string us) (Value.int IntKind.i64 ((std.dint (std.mget (Value.string (ByteArray.mk (Array.mk []))) (Value.int IntKind.i64 (0 : Int)) es (Value.string us))) + (std.quo (n * a) (s + p))))))]))))))))))))))))))) ∧ (((decide ((0 : Int) < a)) = false) → ((((decide (n < (1 : Int))) = true) → ((mintL u us n s p a h es) = [(Filler.val (Value.int IntKind.i64 (0 : Int))), (Filler.val (Value.int IntKind.i64 (11 : Int))), (Filler.val (Value.int IntKind.i64 s)), (Filler.val (Value.int IntKind.i64 p)), (Filler.val (Value.int IntKind.i64 a)), (Filler.val (Value.bool h)), (Filler.me es)])) ∧ (((decide (n < (1 : Int))) = false) → ((((-9223372036854775808 : Int) ≤ (a + n)) ∧ ((a + n) ≤ (9223372036854775807 : Int))) ∧ ((((decide ((1073741824 : Int) < (a + n))) = true) → ((mintL u us n s p a h es) = [(Filler.val (Value.int IntKind.i64 (0 : Int))), (Filler.val (Value.int IntKind.i64 (11 : Int))), (Filler.val (Value.int IntKind.i64 s)), (Filler.val (Value.int IntKind.i64 p)), (Filler.val (Value.int IntKind.i64 a)), (Filler.val (Value.bool h)), (Filler.me es)])) ∧ (((decide ((1073741824 : Int) < (a + n))) = false) → ((((-9223372036854775808 : Int) ≤ ((s + p) + n)) ∧ (((s + p) + n) ≤ (9223372036854775807 : Int))) ∧ ((((decide ((1073741824 : Int) < ((s + p) + n))) = true) → ((mintL u us n s p a h es) = [(Filler.val (Value.int IntKind.i64 (0 : Int))), (Filler.val (Value.int IntKind.i64 (11 : Int))), (Filler.val (Value.int IntKind.i64 s)), (Filler.val (Value.int IntKind.i64 p)), (Filler.val (Value.int IntKind.i64 a)), (Filler.val (Value.bool h)), (Filler.me es)])) ∧ (((decide ((1073741824 : Int) < ((s + p) + n))) = false) → ((((std.mhas (Value.string (ByteArray.mk (Array.mk []))) es (Value.string us)) = true) → ((((-9223372036854775808 : Int) ≤ (p + n)) ∧ ((p + n) ≤ (9223372036854775807 : Int))) ∧ ((((-9223372036854775808 : Int) ≤ (a + n)) ∧ ((a + n) ≤ (9223372036854775807 : Int))) ∧ ((((-9223372036854775808 : Int) ≤ ((std.dint (std.mget (Value.string (ByteArray.mk (Array.mk []))) (Value.int IntKind.i64 (0 : Int)) es (Value.string us))) + n)) ∧ (((std.dint (std.mget (Value.string (ByteArray.mk (Array.mk []))) (Value.int IntKind.i64 (0 : Int)) es (Value.string us))) + n) ≤ (9223372036854775807 : Int))) ∧ ((mintL u us n s p a h es) = [(Filler.val (Value.int IntKind.i64 n)), (Filler.val (Value.int IntKind.i64 (0 : Int))), (Filler.val (Value.int IntKind.i64 s)), (Filler.val (Value.int IntKind.i64 (p + n))), (Filler.val (Value.int IntKind.i64 (a + n))), (Filler.val (Value.bool h)), (Filler.me (std.mput (Value.string (ByteArray.mk (Array.mk []))) es (Value.string us) (Value.int IntKind.i64 ((std.dint (std.mget (Value.string (ByteArray.mk (Array.mk []))) (Value.int IntKind.i64 (0 : Int)) es (Value.string us))) + n))))]))))) ∧ (((std.mhas (Value.string (ByteArray.mk (Array.mk []))) es (Value.string us)) = false) → ((((decide ((30 : Int) ≤ ((List.length es) : Int))) = true) → ((mintL u us n s p a h es) = [(Filler.val (Value.int IntKind.i64 (0 : Int))), (Filler.val (Value.int IntKind.i64 (7 : Int))), (Filler.val (Value.int IntKind.i64 s)), (Filler.val (Value.int IntKind.i64 p)), (Filler.val (Value.int IntKind.i64 a)), (Filler.val (Value.bool h)), (Filler.me es)])) ∧ (((decide ((30 : Int) ≤ ((List.length es) : Int))) = false) → ((((-9223372036854775808 : Int) ≤ (p + n)) ∧ ((p + n) ≤ (9223372036854775807 : Int))) ∧ ((((-9223372036854775808 : Int) ≤ (a + n)) ∧ ((a + n) ≤ (9223372036854775807 : Int))) ∧ ((((-9223372036854775808 : Int) ≤ ((std.dint (std.mget (Value.string (ByteArray.mk (Array.mk []))) (Value.int IntKind.i64 (0 : Int)) es (Value.string us))) + n)) ∧ (((std.dint (std.mget (Value.string (ByteArray.mk (Array.mk []))) (Value.int IntKind.i64 (0 : Int)) es (Value.string us))) + n) ≤ (9223372036854775807 : Int))) ∧ ((mintL u us n s p a h es) = [(Filler.val (Value.int IntKind.i64 n)), (Filler.val (Value.int IntKind.i64 (0 : Int))), (Filler.val (Value.int IntKind.i64 s)), (Filler.val (Value.int IntKind.i64 (p + n))), (Filler.val (Value.int IntKind.i64 (a + n))), (Filler.val (Value.bool h)), (Filler.me (std.mput (Value.string (ByteArray.mk (Array.mk []))) es (Value.string us) (Value.int IntKind.i64 ((std.dint (std.mget (Value.string (ByteArray.mk (Array.mk []))) (Value.int IntKind.i64 (0 : Int)) es (Value.string us))) + n))))]))))))))))))))))))))))))))))))) := by kernel_rfl
set_option maxRecDepth 100000 in
theorem rred_vc (u : RtF) (us : BS) (n s p a : Int) (h : Bool) (es : Ents) : runW std noCon 60 noL (rredO u) 24 Try.f24 (us, n, s, p, a, h, es, ()) =
  ((((-9223372036854775808 : Int) ≤ (s + p)) ∧ ((s + p) ≤ (9223372036854775807 : Int))) ∧ ((((decide (((std.slen us) : Int) < (1 : Int))) = true) → ((redL u us n s p a h es) = [(Filler.val (Value.int IntKind.i64 (0 : Int))), (Filler.val (Value.int IntKind.i64 (1 : Int))), (Filler.val (Value.int IntKind.i64 s)), (Filler.val (Value.int IntKind.i64 p)), (Filler.val (Value.int IntKind.i64 a)), (Filler.val (Value.bool h)), (Filler.me es)])) ∧ (((decide (((std.slen us) : Int) < (1 : Int))) = false) → ((((decide ((16 : Int) < ((std.slen us) : Int))) = true) → ((redL u us n s p a h es) = [(Filler.val (Value.int IntKind.i64 (0 : Int))), (Filler.val (Value.int IntKind.i64 (1 : Int))), (Filler.val (Value.int IntKind.i64 s)), (Filler.val (Value.int IntKind.i64 p)), (Filler.val (Value.int IntKind.i64 a)), (Filler.val (Value.bool h)), (Filler.me es)])) ∧ (((decide ((16 : Int) < ((std.slen us) : Int))) = false) → ((((decide (n < (1 : Int))) = true) → ((redL u us n s p a h es) = [(Filler.val (Value.int IntKind.i64 (0 : Int))), (Filler.val (Value.int IntKind.i64 (1 : Int))), (Filler.val (Value.int IntKind.i64 s)), (Filler.val (Value.int IntKind.i64 p)), (Filler.val (Value.int IntKind.i64 a)), (Filler.val (Value.bool h)), (Filler.me es)])) ∧ (((decide (n < (1 : Int))) = false) → ((((decide ((1073741824 : Int) < n)) = true) → ((redL u us n s p a h es) = [(Filler.val (Value.int IntKind.i64 (0 : Int))), (Filler.val (Value.int IntKind.i64 (1 : Int))), (Filler.val (Value.int IntKind.i64 s)), (Filler.val (Value.int IntKind.i64 p)), (Filler.val (Value.int IntKind.i64 a)), (Filler.val (Value.bool h)), (Filler.me es)])) ∧ (((decide ((1073741824 : Int) < n)) = false) → (((h = true) → ((redL u us n s p a h es) = [(Filler.val (Value.int IntKind.i64 (0 : Int))), (Filler.val (Value.int IntKind.i64 (10 : Int))), (Filler.val (Value.int IntKind.i64 s)), (Filler.val (Value.int IntKind.i64 p)), (Filler.val (Value.int IntKind.i64 a)), (Filler.val (Value.bool h)), (Filler.me es)])) ∧ ((h = false) → (((((std.dint (std.mget (Value.string (ByteArray.mk (Array.mk []))) (Value.int IntKind.i64 (0 : Int)) es (Value.string us))) == (0 : Int)) = true) → ((redL u us n s p a h es) = [(Filler.val (Value.int IntKind.i64 (0 : Int))), (Filler.val (Value.int IntKind.i64 (3 : Int))), (Filler.val (Value.int IntKind.i64 s)), (Filler.val (Value.int IntKind.i64 p)), (Filler.val (Value.int IntKind.i64 a)), (Filler.val (Value.bool h)), (Filler.me es)])) ∧ ((((std.dint (std.mget (Value.string (ByteArray.mk (Array.mk []))) (Value.int IntKind.i64 (0 : Int)) es (Value.string us))) == (0 : Int)) = false) → ((((decide ((std.dint (std.mget (Value.string (ByteArray.mk (Array.mk []))) (Value.int IntKind.i64 (0 : Int)) es (Value.string us))) < n)) = true) → ((redL u us n s p a h es) = [(Filler.val (Value.int IntKind.i64 (0 : Int))), (Filler.val (Value.int IntKind.i64 (11 : Int))), (Filler.val (Value.int IntKind.i64 s)), (Filler.val (Value.int IntKind.i64 p)), (Filler.val (Value.int IntKind.i64 a)), (Filler.val (Value.bool h)), (Filler.me es)])) ∧ (((decide ((std.dint (std.mget (Value.string (ByteArray.mk (Array.mk []))) (Value.int IntKind.i64 (0 : Int)) es (Value.string us))) < n)) = false) → ((((-9223372036854775808 : Int) ≤ (n * (s + p))) ∧ ((n * (s + p)) ≤ (9223372036854775807 : Int))) ∧ ((((0 : Int) < a) ∧ (((-9223372036854775808 : Int) ≤ (n * (s + p))) ∧ ((n * (s + p)) ≤ (9223372036854775807 : Int)))) ∧ ((((decide (p < (std.quo (n * (s + p)) a))) = true) → ((redL u us n s p a h es) = [(Filler.val (Value.int IntKind.i64 (0 : Int))), (Filler.val (Value.int IntKind.i64 (11 : Int))), (Filler.val (Value.int IntKind.i64 s)), (Filler.val (Value.int IntKind.i64 p)), (Filler.val (Value.int IntKind.i64 a)), (Filler.val (Value.bool h)), (Filler.me es)])) ∧ (((decide (p < (std.quo (n * (s + p)) a))) = false) → ((((-9223372036854775808 : Int) ≤ (p - (std.quo (n * (s + p)) a))) ∧ ((p - (std.quo (n * (s + p)) a)) ≤ (9223372036854775807 : Int))) ∧ ((((-9223372036854775808 : Int) ≤ (a - n)) ∧ ((a - n) ≤ (9223372036854775807 : Int))) ∧ ((((-9223372036854775808 : Int) ≤ ((std.dint (std.mget (Value.string (ByteArray.mk (Array.mk []))) (Value.int IntKind.i64 (0 : Int)) es (Value.string us))) - n)) ∧ (((std.dint (std.mget (Value.string (ByteArray.mk (Array.mk []))) (Value.int IntKind.i64 (0 : Int)) es (Value.string us))) - n) ≤ (9223372036854775807 : Int))) ∧ (((((std.dint (std.mget (Value.string (ByteArray.mk (Array.mk []))) (Value.int IntKind.i64 (0 : Int)) (std.mput (Value.string (ByteArray.mk (Array.mk []))) es (Value.string us) (Value.int IntKind.i64 ((std.dint (std.mget (Value.string (ByteArray.mk (Array.mk []))) (Value.int IntKind.i64 (0 : Int)) es (Value.string us))) - n))) (Value.string us))) == (0 : Int)) = true) → ((redL u us n s p a h es) = [(Filler.val (Value.int IntKind.i64 (std.quo (n * (s + p)) a))), (Filler.val (Value.int IntKind.i64 (0 : Int))), (Filler.val (Value.int IntKind.i64 s)), (Filler.val (Value.int IntKind.i64 (p - (std.quo (n * (s + p)) a)))), (Filler.val (Value.int IntKind.i64 (a - n))), (Filler.val (Value.bool h)), (Filler.me (std.mdel (Value.string (ByteArray.mk (Array.mk []))) (std.mput (Value.string (ByteArray.mk (Array.mk []))) es (Value.string us) (Value.int IntKind.i64 ((std.dint (std.mget (Value.string (ByteArray.mk (Array.mk []))) (Value.int IntKind.i64 (0 : Int)) es (Value.string us))) - n))) (Value.string us)))])) ∧ ((((std.dint (std.mget (Value.string (ByteArray.mk (Array.mk []))) (Value.int IntKind.i64 (0 : Int)) (std.mput (Value.string (ByteArray.mk (Array.mk []))) es (Value.string us) (Value.int IntKind.i64 ((std.dint (std.mget (Value.string (ByteArray.mk (Array.mk []))) (Value.int IntKind.i64 (0 : Int)) es (Value.string us))) - n))) (Value.string us))) == (0 : Int)) = false) → ((redL u us n s p a h es) = [(Filler.val (Value.int IntKind.i64 (std.quo (n * (s + p)) a))), (Filler.val (Value.int IntKind.i64 (0 : Int))), (Filler.val (Value.int IntKind.i64 s)), (Filler.val (Value.int IntKind.i64 (p - (std.quo (n * (s + p)) a)))), (Filler.val (Value.int IntKind.i64 (a - n))), (Filler.val (Value.bool h)), (Filler.me (std.mput (Value.string (ByteArray.mk (Array.mk []))) es (Value.string us) (Value.int IntKind.i64 ((std.dint (std.mget (Value.string (ByteArray.mk (Array.mk []))) (Value.int IntKind.i64 (0 : Int)) es (Value.string us))) - n))))]))))))))))))))))))))))))) := by kernel_rfl
set_option maxRecDepth 100000 in
theorem ri_vc (u : RtF) (x y v w : Nat) : runW std noCon 60 noL (riO u) 18 Try.f18 ((x, y), (v, w), ()) =
  ((std.fintOk v) ∧ ((std.fintOk y) ∧ ((((-9223372036854775808 : Int) ≤ ((std.fint v) * (std.fint y))) ∧ (((std.fint v) * (std.fint y)) ≤ (9223372036854775807 : Int))) ∧ ((std.fintOk x) ∧ ((std.fintOk w) ∧ ((((-9223372036854775808 : Int) ≤ ((std.fint x) * (std.fint w))) ∧ (((std.fint x) * (std.fint w)) ≤ (9223372036854775807 : Int))) ∧ ((((decide (((std.fint x) * (std.fint w)) ≤ ((std.fint v) * (std.fint y)))) = true) → ([(Filler.val (Value.bool (u.ri x y v w)))] = [(Filler.val (Value.bool true))])) ∧ (((decide (((std.fint x) * (std.fint w)) ≤ ((std.fint v) * (std.fint y)))) = false) → ([(Filler.val (Value.bool (u.ri x y v w)))] = [(Filler.val (Value.bool false))]))))))))) := by kernel_rfl
end Go.Proofs.Ytddejgkfgnokgaa
end
section
namespace Go.Proofs.Ytddejgkfgnokgaa
open Go.Abs Go
end Go.Proofs.Ytddejgkfgnokgaa
end
section
namespace Go.Proofs.Ytddejgkfgnokgaa
open Go.Abs Go
end Go.Proofs.Ytddejgkfgnokgaa
end
section
namespace Go.Proofs.Ytddejgkfgnokgaa
open Go.Shelf Go.Abs Go.RowKit Go Go.Lib
theorem dra_plain {fz : Nat → Nat → Option Value} {x v' : Value} (hp : plain1 x = true) (h : DRa fz x v') : v' = x := by
  rcases h with ⟨_, h⟩ | ⟨xs, ys, rfl, _, _⟩
  · exact dr_plain hp h
  · simp [plain1] at hp
/-- Grow of nil, from what its text does. -/
theorem grow_pf {fi : FuncId} {fn : Func} {c : Code} (hf : Try.prog.funcs[fi]? = some fn) (hb : fn.body = some c) {z : Value} {e : TypeId} {z0 : Value} (hsz : z0.cells.size = z.cells.size)
    (h0 : ∀ w, Calls Try.prog fi #[.slice none 0 0, .int .i64 (0 : Nat)] w fun en w' => en = .returned (.slice none 0 0) ∧ w' = w)
    (h1 : ∀ (n : Nat) w, 0 < n → n ≤ 4000000 → Calls Try.prog fi #[.slice none 0 0, .int .i64 n] w fun en w' => ∃ cp, en = .returned (.slice (some ⟨w.heap.size, 0, none⟩) 0 cp) ∧
      w' = w.drew.alloc (.cells (#[] ++ Builtin.zeroCells z0.cells n ++ Builtin.zeroCells z0.cells (cp - n)) e)) : PFOk Try.prog fi (growP std z) := by
  refine ⟨fun {zf base w} hbase hz0 {d} hpre {xs} hraw {args'} hl => ?_⟩
  obtain ⟨_, n, _⟩ := d
  obtain ⟨hn0, hn1⟩ := hpre
  have hn0 : 0 ≤ n := hn0
  have hn1 : n ≤ 4000000 := hn1
  obtain ⟨m, rfl⟩ : ∃ m : Nat, n = (m : Int) := ⟨n.toNat, by omega⟩
  have hx : xs = [.slice none 0 0, .int .i64 m] := by
    have e : rawVs deep0 (growP std z).zs ((growP std z).args ((), (m : Int), ())) = some [.slice none 0 0, .int .i64 m] := rfl
    rw [e] at hraw
    exact (Option.some.inj hraw).symm
  subst hx
  obtain ⟨a0, l0, e0, r0, hl⟩ := hl.inv_cons
  obtain ⟨a1, l1, rfl, r1, hl⟩ := hl.inv_cons
  have := hl.inv_nil; subst this
  rw [dra_plain rfl r0, dra_plain rfl r1] at e0
  have ha : args' = #[.slice none 0 0, .int .i64 m] := Array.toList_inj.1 e0
  subst ha
  have hn := Try.progOk.name hf
  have hfv : ∀ b, (freshV ((growP std z).res ((), (m : Int), ())) b) = some (osl z [] b) := fun b => by
    show (match asDeep (dsl z []) with | some (z, xs) => some (osl z xs b) | none => none) = _
    rw [asDeep_dsl]
  refine .inr ⟨by simp [callFunc, hf, hn, hb], ?_⟩
  by_cases hm : m = 0
  · subst hm
    refine (h0 w).mono ?_
    rintro en w' ⟨rfl, rfl⟩
    refine ⟨_, rfl, zf, none, .refl _ _, fun _ _ _ h => h, fun _ _ _ h => .inl h, hz0, fun {μ b} hz ht => ?_, fun _ b => by rw [hfv]; rfl, fun p h => by cases h⟩
    show VR μ (osl z [] b) _
    exact .zero (.osl .nil rfl (.inl rfl))
  · refine (h1 m w (by omega) (by omega)).mono ?_
    rintro en w' ⟨cp, rfl, rfl⟩
    have hgr := grow_drew_alloc w (.cells (#[] ++ Builtin.zeroCells z0.cells m ++ Builtin.zeroCells z0.cells (cp - m)) e)
    have hz9 : (#[] ++ Builtin.zeroCells z0.cells m ++ Builtin.zeroCells z0.cells (cp - m)).size = m * z.cells.size + (cp - m) * z.cells.size := by
      rw [Array.size_append, Array.size_append, size_zeroC, size_zeroC, hsz]; simp
    generalize hA : (#[] ++ Builtin.zeroCells z0.cells m ++ Builtin.zeroCells z0.cells (cp - m)) = arr at hz9 hgr
    refine ⟨_, rfl, zf, some ⟨w.heap.size, 0, arr.size⟩, ⟨hgr.os, hgr.tape, hgr.output, by rw [hgr.size]; omega, hgr.old⟩, fun _ _ _ h => h, fun _ _ _ h => .inl h, fun c i a h => ?_, fun {μ b} hz ht => ?_, fun _ b => by rw [hfv]; rfl, fun p h => ?_⟩
    · obtain ⟨arr', e', fr', h2, h3⟩ := hz0 c i a h
      exact ⟨arr', e', fr', (hgr.old c (Array.getElem?_eq_some_iff.1 h2).1).trans h2, h3⟩
    · show VR μ (osl z [] b) _
      refine .zero (.osl .nil rfl (.inr ⟨rfl, ⟨w.heap.size, 0, arr.size⟩, w.heap.size, 0, rfl, ht, rfl, by simp, ?_⟩))
      show 0 + cp * z.cells.size ≤ arr.size
      rw [hz9, ← Nat.add_mul, Nat.zero_add]
      exact Nat.mul_le_mul_right _ (by omega)
    · simp only [Option.some.injEq] at h; subst h
      refine ⟨rfl, Nat.le_refl _, fun c i a h hc => ?_, arr, e, _, hgr.new, rfl, fun i _ h => ?_⟩
      · obtain ⟨arr', e', fr', h2, _⟩ := hz0 c i a h
        have := (Array.getElem?_eq_some_iff.1 h2).1
        simp at hc; omega
      · simp at h
end Go.Proofs.Ytddejgkfgnokgaa
end
section
namespace Go.Proofs.Ytddejgkfgnokgaa
open Go.RowKit Go.Abs Go
def noB : ByteArray := ⟨#[]⟩
def prV (k v : ByteArray) : Value := .agg #[.string k, .string v]
def cmpB (a b : ByteArray) : Int := Lib.compareBytes a.data.toList b.data.toList
def ltB (a b : ByteArray) : Bool := Op.bytesLess a.data.toList b.data.toList
def eqB (a b : ByteArray) : Bool := a.data.toList == b.data.toList
def lenB (a : ByteArray) : Nat := a.data.toList.length
def bsL : Nat → (Nat → Bool) → Int → Int → Int
  | 0, _, i, _ => i
  | f + 1, p, i, j => if i < j then (if p ((i + j) / 2).toNat then bsL f p ((i + j) / 2 + 1) j else bsL f p i ((i + j) / 2)) else i
def bsF (xs : List Value) (k : ByteArray) : Int := bsL (xs.length + 1) (fun m => decide (cmpB (kP xs m) k < 0)) 0 xs.length
def fdF (xs : List Value) (k : ByteArray) : Bool := decide (bsF xs k < (xs.length : Int)) && cmpB (kP xs (bsF xs k).toNat) k == 0
def mayF (k v : ByteArray) : Bool := !eqB k noB && (decide ((lenB k : Int) ≤ 16) && decide ((lenB v : Int) ≤ 24))
def rmayF (k v : ByteArray) : Bool := decide (1 ≤ (lenB k : Int)) && (decide ((lenB k : Int) ≤ 16) && decide ((lenB v : Int) ≤ 24))
def rightAt (may : ByteArray → ByteArray → Bool) (xs : List Value) (i : Nat) : Bool := may (kP xs i) (vP xs i) && (i == 0 || ltB (kP xs (i - 1)) (kP xs i))
def rightF (may : ByteArray → ByteArray → Bool) (xs : List Value) : Bool := (List.range xs.length).all (rightAt may xs) && decide (xs.length ≤ 30)
def sameAt (xs ys : List Value) (i : Nat) : Bool := eqB (kP xs i) (kP ys i) && eqB (vP xs i) (vP ys i)
def sameF (xs ys : List Value) : Bool := xs.length == ys.length && (List.range xs.length).all (sameAt xs ys)
def samebF (xs ys : List Value) : Bool := xs.length == ys.length && (List.range xs.length).all fun i => eB xs i == eB ys i
/-- The first place at which something does not hold. -/
def firstN (p : Nat → Bool) : Nat → Nat → Nat
  | 0, i => i
  | n + 1, i => if p i then firstN p n (i + 1) else i
def rfirstF (xs : List Value) (k : ByteArray) : Int := (firstN (fun i => ltB (kP xs i) k) xs.length 0 : Nat)
def delL (xs : List Value) (k : ByteArray) : Nat → List Value
  | 0 => []
  | i + 1 => if eqB (kP xs i) k then delL xs k i else delL xs k i ++ [prV (kP xs i) (vP xs i)]
def rdelF (xs : List Value) (k : ByteArray) : List Value := delL xs k xs.length
def putF (xs : List Value) (i : Nat) (k v : ByteArray) (at' : Bool) : List Value := xs.take i ++ [prV k v] ++ xs.drop (if at' then i + 1 else i)
def rsetF (xs : List Value) (k v : ByteArray) : List Value := putF xs (rfirstF xs k).toNat k v (decide (rfirstF xs k < (xs.length : Int)) && eqB (kP xs (rfirstF xs k).toNat) k)
def getF (xs : List Value) (k : ByteArray) : ByteArray := if fdF xs k then vP xs (bsF xs k).toNat else noB
def setokF (xs : List Value) (k v : ByteArray) : Bool := mayF k v && (fdF xs k || decide ((xs.length : Int) < 30))
def setF (xs : List Value) (k v : ByteArray) : List Value := if setokF xs k v then putF xs (bsF xs k).toNat k v (fdF xs k) else xs
def dropF (xs : List Value) (k : ByteArray) : List Value := if fdF xs k then xs.take (bsF xs k).toNat ++ xs.drop ((bsF xs k).toNat + 1) else xs
def rngF (xs : List Value) (a b : ByteArray) : List Value := (xs.drop (bsF xs a).toNat).take ((max (bsF xs a) (bsF xs b)).toNat - (bsF xs a).toNat)
def strs (l : List (List UInt8)) : List Value := l.map fun s => .string ⟨s.toArray⟩
def keysV : List Value := strs [[97], [97, 98], [97, 98, 99], [98], [98, 97], [115, 47, 97], [115, 47, 98], [115, 47, 99], [116], [117], [122], [122, 122]]
def txtsV : List Value := strs [[], [49], [120], [118, 97, 108, 117, 101], [49, 50, 51, 52, 53, 54, 55, 56]]
def keyF (n : Int) : ByteArray := eS keysV (n % 12).toNat
def txtF (n : Int) : ByteArray := eS txtsV (n % 5).toNat
def catF (xss : List Value) : List Value := (List.range xss.length).flatMap (eL xss)
def oneL : Nat → Int → List Value
  | 0, _ => []
  | f + 1, n => if 127 < n then .int .u8 (std.wrap .u8 (std.bor .i64 (std.band .i64 n 127) 128)) :: oneL f (std.shr .i64 n 7) else [.int .u8 (std.wrap .u8 n)]
def oneF (n : Int) : List Value := oneL 7 n
def textF (xs : List Value) : List Value := (List.range xs.length).flatMap fun i => oneF (lenB (eS xs i) : Int) ++ std.svals (eS xs i)
def leafF (k v : ByteArray) : List Value := textF [.string k, .string v]
/-- affiantkeep.Pairs: the map behind so many numbers; the pairs of so many keys. -/
def esF (xs : List Value) : Nat → List (Value × Value)
  | 0 => []
  | i + 1 => mput zS (esF xs i) (.string (keyF (eI xs i))) (.string (txtF (Int.tdiv (eI xs i) 12)))
def outL (es : List (Value × Value)) : Nat → List Value
  | 0 => []
  | i + 1 => if mhas zS es (.string (eS keysV i)) then outL es i ++ [prV (eS keysV i) (dstr (mget zS zS es (.string (eS keysV i))))] else outL es i
def pairsF (xs : List Value) : List Value := outL (esF xs (min xs.length 12)) 12
noncomputable def kvF : KvF where
  cmp := cmpB
  bs := bsF
  fd := fdF
  may := mayF
  rmay := rmayF
  right := rightF mayF
  rright := rightF rmayF
  same := sameF
  sameb := samebF
  get := getF
  set := setF
  setok := setokF
  del := dropF
  rng := rngF
  rset := rsetF
  rdel := rdelF
  rfirst := rfirstF
  leaf := leafF
  key := keyF
  txt := txtF
  pairs := pairsF
  cat := catF
  one := oneF
  text := textF
  wi := fun n lo hi => lo + n % (hi - lo + 1)

theorem wrapu (n : Int) : std.wrap .u64 n = n % 18446744073709551616 := rfl
theorem shru1 (n : Int) : std.shr .u64 n 1 = n / 2 := by
  show n.fdiv 2 = n / 2
  exact Int.fdiv_eq_ediv_of_nonneg n (by omega)
theorem mid_of {i j : Int} (h0 : 0 ≤ i) (h1 : i ≤ j) (h2 : j ≤ 1000000) : std.wrap .i64 (std.shr .u64 (std.wrap .u64 (i + j)) 1) = (i + j) / 2 := by
  rw [wrapu, show (i + j) % 18446744073709551616 = i + j by omega, shru1]
  exact wrap_i64 (by omega)
theorem bsL_more (p : Nat → Bool) : ∀ (f : Nat) (i j : Int) (g : Nat), (j - i).toNat < f → (j - i).toNat < g → bsL f p i j = bsL g p i j
  | 0, i, j, g, h, _ => by omega
  | f + 1, i, j, 0, _, h => by omega
  | f + 1, i, j, g + 1, h1, h2 => by
    unfold bsL
    split
    · split
      · exact bsL_more p f _ _ g (by omega) (by omega)
      · exact bsL_more p f _ _ g (by omega) (by omega)
    · rfl
theorem bsL_range (p : Nat → Bool) : ∀ (f : Nat) (i j : Int), i ≤ j → i ≤ bsL f p i j ∧ bsL f p i j ≤ j
  | 0, i, j, h => ⟨Int.le_refl _, h⟩
  | f + 1, i, j, h => by
    unfold bsL
    split
    · split
      · have := bsL_range p f ((i + j) / 2 + 1) j (by omega); omega
      · have := bsL_range p f i ((i + j) / 2) (by omega); omega
    · omega
theorem bsF_range (xs : List Value) (k : ByteArray) : 0 ≤ bsF xs k ∧ bsF xs k ≤ (xs.length : Int) := bsL_range _ _ _ _ (by omega)
theorem fd_lt {xs : List Value} {k : ByteArray} (h : fdF xs k = true) : bsF xs k < (xs.length : Int) := by
  unfold fdF at h
  simp only [Bool.and_eq_true, decide_eq_true_eq] at h
  exact h.1
theorem all_not {p : Nat → Bool} {n i : Nat} (hi : i < n) (h : p i = false) : (List.range n).all p = false := by
  rw [List.all_eq_false]
  exact ⟨i, List.mem_range.2 hi, by rw [h]; exact Bool.false_ne_true⟩
theorem all_yes {p : Nat → Bool} {n : Nat} (h : ∀ i, i < n → p i = true) : (List.range n).all p = true := by
  rw [List.all_eq_true]
  exact fun i hi => h i (List.mem_range.1 hi)
/-- The invariant of a walk that looks whether all is right. -/
def rightI (may : ByteArray → ByteArray → Bool) (xs : List Value) (d : NIL) : Prop := d.n = xs.length ∧ ∃ i : Nat, d.i = i ∧ i ≤ xs.length ∧ ∀ j, j < i → rightAt may xs j = true
theorem right_of (may : ByteArray → ByteArray → Bool) (xs : List Value) (hx : xs.length ≤ 1000000) {d : NIL} (hI : rightI may xs d) (right : List Value → Bool) (hr : right xs = rightF may xs) :
   ((decide (d.i < d.n) = true → (0 ≤ d.i ∧ d.i < (xs.length : Int)) ∧ True ∧
      (may (kP xs d.i.toNat) (vP xs d.i.toNat) = true →
        (decide (0 < d.i) = true → (-9223372036854775808 ≤ d.i - 1 ∧ d.i - 1 ≤ 9223372036854775807) ∧ (0 ≤ d.i - 1 ∧ d.i - 1 < (xs.length : Int)) ∧
          ((!std.slt (kP xs (d.i - 1).toNat) (kP xs d.i.toNat)) = true → [Value.bool false] = [Value.bool (right xs)]) ∧
          ((!std.slt (kP xs (d.i - 1).toNat) (kP xs d.i.toNat)) = false → (-9223372036854775808 ≤ d.i + 1 ∧ d.i + 1 ≤ 9223372036854775807) ∧ ∃ d' : NIL, [Filler.dl xs, Filler.dl xs, Filler.val (Value.int IntKind.i64 d'.n), Filler.val (Value.int IntKind.i64 d'.i)] = [Filler.dl xs, Filler.dl xs, Filler.val (Value.int IntKind.i64 d.n), Filler.val (Value.int IntKind.i64 (d.i + 1))] ∧ Nat.le (Nat.succ (d'.n - d'.i).toNat) (d.n - d.i).toNat ∧ rightI may xs d')) ∧
        (decide (0 < d.i) = false → (-9223372036854775808 ≤ d.i + 1 ∧ d.i + 1 ≤ 9223372036854775807) ∧ ∃ d' : NIL, [Filler.dl xs, Filler.dl xs, Filler.val (Value.int IntKind.i64 d'.n), Filler.val (Value.int IntKind.i64 d'.i)] = [Filler.dl xs, Filler.dl xs, Filler.val (Value.int IntKind.i64 d.n), Filler.val (Value.int IntKind.i64 (d.i + 1))] ∧ Nat.le (Nat.succ (d'.n - d'.i).toNat) (d.n - d.i).toNat ∧ rightI may xs d')) ∧
      (may (kP xs d.i.toNat) (vP xs d.i.toNat) = false → [Value.bool false] = [Value.bool (right xs)])) ∧
    (decide (d.i < d.n) = false → (decide ((xs.length : Int) ≤ 30) = true → [Value.bool true] = [Value.bool (right xs)]) ∧ (decide ((xs.length : Int) ≤ 30) = false → [Value.bool false] = [Value.bool (right xs)]))) := by
  obtain ⟨hn, i, hi, hle, hall⟩ := hI
  have key : ∀ b, rightF may xs = b → ([Value.bool b] = [Value.bool (right xs)]) := fun b hb => by rw [hr, hb]
  have bad : i < xs.length → rightAt may xs i = false → rightF may xs = false := fun h1 h2 => by unfold rightF; rw [all_not h1 h2]; rfl
  have next : i < xs.length → rightAt may xs i = true → ∃ d' : NIL, [Filler.dl xs, Filler.dl xs, Filler.val (Value.int IntKind.i64 d'.n), Filler.val (Value.int IntKind.i64 d'.i)] = [Filler.dl xs, Filler.dl xs, Filler.val (Value.int IntKind.i64 d.n), Filler.val (Value.int IntKind.i64 (d.i + 1))] ∧ Nat.le (Nat.succ (d'.n - d'.i).toNat) (d.n - d.i).toNat ∧ rightI may xs d' := fun h1 h2 => by
    refine ⟨⟨d.n, d.i + 1⟩, rfl, ?_, hn, i + 1, by show d.i + 1 = _; omega, h1, fun j hj => ?_⟩
    · show (d.n - (d.i + 1)).toNat + 1 ≤ (d.n - d.i).toNat
      omega
    · by_cases e : j = i
      · subst e; exact h2
      · exact hall j (by omega)
  rw [hi, Int.toNat_natCast]
  refine ⟨fun h => ?_, fun h => ⟨fun e => key _ ?_, fun e => key _ ?_⟩⟩
  · have h := of_decide_eq_true h
    have hlt : i < xs.length := by omega
    refine ⟨by omega, trivial, fun h1 => ⟨fun h2 => ?_, fun h2 => ?_⟩, fun h1 => key _ (bad hlt (by unfold rightAt; rw [h1]; rfl))⟩
    · have h2 := of_decide_eq_true h2
      rw [show ((i : Int) - 1).toNat = i - 1 by omega]
      refine ⟨by omega, by omega, fun h3 => key _ (bad hlt ?_), fun h3 => ⟨by omega, ?_⟩⟩
      · have h3 : (!ltB (kP xs (i - 1)) (kP xs i)) = true := h3
        have h3 : ltB (kP xs (i - 1)) (kP xs i) = false := by simpa using h3
        unfold rightAt
        rw [h1, h3, show (i == 0) = false by simp; omega]; rfl
      · have h3 : (!ltB (kP xs (i - 1)) (kP xs i)) = false := h3
        have h3 : ltB (kP xs (i - 1)) (kP xs i) = true := by simpa using h3
        rw [← hi]
        refine next hlt ?_
        unfold rightAt
        rw [h1, h3]; simp
    · have h2 := of_decide_eq_false h2
      refine ⟨by omega, ?_⟩
      rw [← hi]
      refine next hlt ?_
      unfold rightAt
      rw [h1, show (i == 0) = true by simp; omega]; rfl
  · have h := of_decide_eq_false h
    unfold rightF
    rw [all_yes fun j hj => hall j (by omega)]
    have e := of_decide_eq_true e
    rw [decide_eq_true (by omega)]; rfl
  · unfold rightF
    have e := of_decide_eq_false e
    rw [decide_eq_false (by omega), Bool.and_false]
theorem eqB_iff {a b : ByteArray} : eqB a b = true ↔ a = b := by
  unfold eqB
  rw [beq_iff_eq]
  refine ⟨fun h => ?_, fun h => by rw [h]⟩
  cases a; cases b
  simp only [ByteArray.mk.injEq]
  exact Array.toList_inj.1 h
def sameI (p : Nat → Bool) (n : Nat) (d : IL) : Prop := ∃ i : Nat, d.i = i ∧ i ≤ n ∧ ∀ j, j < i → p j = true
theorem firstN_ok (p : Nat → Bool) : ∀ (n i : Nat), i ≤ firstN p n i ∧ firstN p n i ≤ i + n ∧ (∀ j, i ≤ j → j < firstN p n i → p j = true) ∧ (firstN p n i < i + n → p (firstN p n i) = false)
  | 0, i => ⟨Nat.le_refl _, Nat.le_refl _, fun j h1 h2 => by simp [firstN] at h2; omega, fun h => by simp [firstN] at h⟩
  | n + 1, i => by
    unfold firstN
    split
    · rename_i h
      obtain ⟨h1, h2, h3, h4⟩ := firstN_ok p n (i + 1)
      refine ⟨by omega, by omega, fun j h5 h6 => ?_, fun h5 => h4 (by omega)⟩
      by_cases e : j = i
      · subst e; exact h
      · exact h3 j (by omega) h6
    · rename_i h
      exact ⟨Nat.le_refl _, by omega, fun j h1 h2 => by omega, fun _ => by simpa using h⟩
theorem firstN_eq {p : Nat → Bool} {n i : Nat} (hi : i ≤ n) (h1 : ∀ j, j < i → p j = true) (h2 : i < n → p i = false) : firstN p n 0 = i := by
  obtain ⟨_, h4, h5, h6⟩ := firstN_ok p n 0
  rcases Nat.lt_trichotomy (firstN p n 0) i with h | h | h
  · have := h6 (by omega)
    rw [h1 _ h] at this; cases this
  · exact h
  · have := h5 i (Nat.zero_le _) h
    rw [h2 (by omega)] at this; cases this
theorem rfirst_range (xs : List Value) (k : ByteArray) : 0 ≤ rfirstF xs k ∧ rfirstF xs k ≤ (xs.length : Int) := by
  have := (firstN_ok (fun i => ltB (kP xs i) k) xs.length 0).2.1
  unfold rfirstF
  omega
theorem delL_len (xs : List Value) (k : ByteArray) : ∀ i, (delL xs k i).length ≤ i
  | 0 => Nat.le_refl _
  | i + 1 => by
    have := delL_len xs k i
    unfold delL
    split
    · omega
    · simp; omega
end Go.Proofs.Ytddejgkfgnokgaa
end
section
namespace Go.Proofs.Ytddejgkfgnokgaa
open Go.RowKit Go.Abs Go
/-- A statement, kept whole. -/
structure Holds (p : Prop) : Prop where
  out : p
theorem dels_dsl (z : Value) (l : List Value) : dels (dsl z l) = l := by simp [dels, dsl]
theorem catF3 (a b c : List Value) : catF [dsl zP a, dsl zP b, dsl zP c] = a ++ b ++ c := by
  show dels (dsl zP a) ++ (dels (dsl zP b) ++ (dels (dsl zP c) ++ [])) = _
  rw [dels_dsl, dels_dsl, dels_dsl, List.append_nil, List.append_assoc]
theorem catF2 (a b : List Value) : catF [dsl zP a, dsl zP b] = a ++ b := by
  show dels (dsl zP a) ++ (dels (dsl zP b) ++ []) = _
  rw [dels_dsl, dels_dsl, List.append_nil]
def sumL (xss : List Value) : Nat → Nat
  | 0 => 0
  | i + 1 => sumL xss i + (eL xss i).length
theorem sumL_le {xss : List Value} (h : ∀ i, i < xss.length → (eL xss i).length ≤ 1000000) : ∀ i, i ≤ xss.length → sumL xss i ≤ i * 1000000
  | 0, _ => by simp [sumL]
  | i + 1, hi => by
    have := sumL_le h i (by omega)
    have := h i (by omega)
    unfold sumL
    omega
def catL (xss : List Value) : Nat → List Value
  | 0 => []
  | i + 1 => catL xss i ++ eL xss i
theorem catL_len (xss : List Value) : ∀ i, (catL xss i).length = sumL xss i
  | 0 => rfl
  | i + 1 => by unfold catL sumL; rw [List.length_append, catL_len xss i]
theorem catL_eq (xss : List Value) : ∀ n, catL xss n = (List.range n).flatMap (eL xss)
  | 0 => rfl
  | n + 1 => by
    unfold catL
    rw [catL_eq xss n, List.range_succ, List.flatMap_append]
    simp
theorem len3 {a b c : List Value} (ha : a.length ≤ 1000000) (hb : b.length ≤ 1000000) (hc : c.length ≤ 1000000) : ∀ i : Nat, i < 3 → (eL [dsl zP a, dsl zP b, dsl zP c] i).length ≤ 1000000
  | 0, _ => by show (dels (dsl zP a)).length ≤ _; rw [dels_dsl]; exact ha
  | 1, _ => by show (dels (dsl zP b)).length ≤ _; rw [dels_dsl]; exact hb
  | 2, _ => by show (dels (dsl zP c)).length ≤ _; rw [dels_dsl]; exact hc
  | _ + 3, h => by omega
theorem len2 {a b : List Value} (ha : a.length ≤ 1000000) (hb : b.length ≤ 1000000) : ∀ i : Nat, i < 2 → (eL [dsl zP a, dsl zP b] i).length ≤ 1000000
  | 0, _ => by show (dels (dsl zP a)).length ≤ _; rw [dels_dsl]; exact ha
  | 1, _ => by show (dels (dsl zP b)).length ≤ _; rw [dels_dsl]; exact hb
  | _ + 2, h => by omega
theorem take_len {xs : List Value} (hx : xs.length ≤ 1000000) (i j : Nat) : (List.take i (List.drop j xs)).length ≤ 1000000 := by
  rw [List.length_take, List.length_drop]; omega
theorem take_rest (xs : List Value) (j : Nat) : List.take (xs.length - j) (List.drop j xs) = xs.drop j := List.take_of_length_le (by rw [List.length_drop]; omega)
theorem imax_max (a b : Int) : std.imax a b = max a b := by
  show (if b > a then b else a) = max a b
  rw [Int.max_def]
  split <;> split <;> omega
end Go.Proofs.Ytddejgkfgnokgaa
end
section
namespace Go.Proofs.Ytddejgkfgnokgaa
open Go.RowKit Go.Abs Go
theorem u8_lt (a b : UInt8) : a < b ↔ a.toNat < b.toNat := UInt8.lt_iff_toNat_lt
theorem u8_eq (a b : UInt8) : a = b ↔ a.toNat = b.toNat := UInt8.toNat_inj.symm
theorem less_iff : ∀ a b : List UInt8, Op.bytesLess a b = true ↔ Lib.compareBytes a b < 0
  | [], [] => by simp [Op.bytesLess, Lib.compareBytes]
  | [], _ :: _ => by simp [Op.bytesLess, Lib.compareBytes]
  | _ :: _, [] => by simp [Op.bytesLess, Lib.compareBytes]
  | a :: x, b :: y => by
    have ih := less_iff x y
    unfold Op.bytesLess Lib.compareBytes
    simp only [Bool.or_eq_true, decide_eq_true_eq, Bool.and_eq_true, beq_iff_eq]
    rw [ih]
    by_cases h1 : a < b
    · simp [h1]
    · by_cases h2 : b < a
      · have : a ≠ b := fun e => by subst e; rw [u8_lt] at h2; omega
        simp [h1, h2, this]
      · have : a = b := by rw [u8_lt] at h1 h2; rw [u8_eq]; omega
        subst this
        simp [h1]
theorem cmp_zero : ∀ a b : List UInt8, Lib.compareBytes a b = 0 ↔ a = b
  | [], [] => by simp [Lib.compareBytes]
  | [], _ :: _ => by simp [Lib.compareBytes]
  | _ :: _, [] => by simp [Lib.compareBytes]
  | a :: x, b :: y => by
    have ih := cmp_zero x y
    unfold Lib.compareBytes
    by_cases h1 : a < b
    · have : a ≠ b := fun e => by subst e; rw [u8_lt] at h1; omega
      simp [h1, this]
    · by_cases h2 : b < a
      · have : a ≠ b := fun e => by subst e; rw [u8_lt] at h2; omega
        simp [h1, h2, this]
      · have : a = b := by rw [u8_lt] at h1 h2; rw [u8_eq]; omega
        subst this
        simp [h1, ih]
theorem less_trans : ∀ {a b c : List UInt8}, Op.bytesLess a b = true → Op.bytesLess b c = true → Op.bytesLess a c = true
  | _, [], _, h, _ => by cases ‹List UInt8› <;> simp [Op.bytesLess] at h
  | _, _ :: _, [], _, h => by simp [Op.bytesLess] at h
  | [], _ :: _, _ :: _, _, _ => rfl
  | a :: x, b :: y, c :: z, h1, h2 => by
    unfold Op.bytesLess at h1 h2 ⊢
    simp only [Bool.or_eq_true, decide_eq_true_eq, Bool.and_eq_true, beq_iff_eq] at h1 h2 ⊢
    rcases h1 with h1 | ⟨rfl, h1⟩
    · rcases h2 with h2 | ⟨rfl, h2⟩
      · left; rw [u8_lt] at h1 h2 ⊢; omega
      · exact .inl h1
    · rcases h2 with h2 | ⟨rfl, h2⟩
      · exact .inl h2
      · exact .inr ⟨rfl, less_trans h1 h2⟩
theorem less_total : ∀ {a b : List UInt8}, Op.bytesLess a b = false → Op.bytesLess b a = true ∨ a = b
  | [], [], _ => .inr rfl
  | [], _ :: _, h => by simp [Op.bytesLess] at h
  | _ :: _, [], _ => .inl rfl
  | a :: x, b :: y, h => by
    unfold Op.bytesLess at h ⊢
    simp only [Bool.or_eq_false_iff, decide_eq_false_iff_not, Bool.and_eq_false_iff, beq_eq_false_iff_ne] at h
    obtain ⟨h1, h2⟩ := h
    simp only [Bool.or_eq_true, decide_eq_true_eq, Bool.and_eq_true, beq_iff_eq, List.cons.injEq]
    by_cases e : a = b
    · subst e
      rcases h2 with h2 | h2
      · exact absurd rfl h2
      · rcases less_total h2 with h3 | h3
        · exact .inl (.inr ⟨rfl, h3⟩)
        · exact .inr ⟨rfl, h3⟩
    · left; left
      rw [u8_eq] at e; rw [u8_lt] at h1 ⊢; omega
theorem less_irrefl : ∀ a : List UInt8, Op.bytesLess a a = false
  | [] => rfl
  | a :: x => by
    have ih := less_irrefl x
    unfold Op.bytesLess
    rw [ih]
    have : ¬ a < a := by rw [u8_lt]; omega
    simp
theorem lt_trans {a b c : ByteArray} (h1 : ltB a b = true) (h2 : ltB b c = true) : ltB a c = true := less_trans h1 h2
theorem lt_irrefl (a : ByteArray) : ltB a a = false := less_irrefl _
theorem lt_total {a b : ByteArray} (h : ltB a b = false) : ltB b a = true ∨ a = b := by
  rcases less_total h with h | h
  · exact .inl h
  · exact .inr (eqB_iff.1 (by unfold eqB; rw [h]; exact beq_self_eq_true _))
theorem lt_cmp (a b : ByteArray) : decide (cmpB a b < 0) = ltB a b := by
  have := less_iff a.data.toList b.data.toList
  unfold cmpB ltB
  cases h : Op.bytesLess a.data.toList b.data.toList with
  | true => exact decide_eq_true (this.1 h)
  | false => exact decide_eq_false fun h2 => by rw [this.2 h2] at h; cases h
theorem eq_cmp (a b : ByteArray) : (cmpB a b == 0) = eqB a b := by
  have := cmp_zero a.data.toList b.data.toList
  unfold cmpB eqB
  rw [Bool.eq_iff_iff, beq_iff_eq, beq_iff_eq]; exact this
theorem lt_ne {a b : ByteArray} (h : ltB a b = true) : eqB a b = false := by
  cases e : eqB a b with
  | false => rfl
  | true => rw [eqB_iff.1 e, lt_irrefl] at h; cases h
theorem gt_ne {a b : ByteArray} (h : ltB a b = true) : eqB b a = false := by
  cases e : eqB b a with
  | false => rfl
  | true => rw [eqB_iff.1 e, lt_irrefl] at h; cases h

def keyV (x : Value) : ByteArray := dstr (fld x 0)
def valV (x : Value) : ByteArray := dstr (fld x 1)
def Wf (l : List Value) : Prop := ∀ x ∈ l, x = prV (keyV x) (valV x)
def RightL (l : List Value) : Prop := rightF mayF l = true ∧ Wf l
def Ord (l : List Value) : Prop := l.Pairwise fun x y => ltB (keyV x) (keyV y) = true
theorem kP_get {l : List Value} {i : Nat} (h : i < l.length) : kP l i = keyV l[i] := by
  unfold kP keyV
  rw [List.getD_eq_getElem?_getD, List.getElem?_eq_getElem h]; rfl
theorem vP_get {l : List Value} {i : Nat} (h : i < l.length) : vP l i = valV l[i] := by
  unfold vP valV
  rw [List.getD_eq_getElem?_getD, List.getElem?_eq_getElem h]; rfl
theorem right_iff (l : List Value) : rightF mayF l = true ↔ (∀ x ∈ l, mayF (keyV x) (valV x) = true) ∧ Ord l ∧ l.length ≤ 30 := by
  unfold rightF
  rw [Bool.and_eq_true, List.all_eq_true, decide_eq_true_eq]
  constructor
  · rintro ⟨h1, h2⟩
    have at' : ∀ i, i < l.length → rightAt mayF l i = true := fun i hi => h1 i (List.mem_range.2 hi)
    refine ⟨fun x hx => ?_, ?_, h2⟩
    · obtain ⟨i, hi, rfl⟩ := List.getElem_of_mem hx
      have := at' i hi
      unfold rightAt at this
      rw [Bool.and_eq_true, kP_get hi, vP_get hi] at this
      exact this.1
    · unfold Ord
      rw [List.pairwise_iff_getElem]
      have step : ∀ d i, ∀ (hi : i < l.length) (hj : i + d + 1 < l.length), ltB (keyV l[i]) (keyV l[i + d + 1]) = true := by
        intro d
        induction d with
        | zero =>
          intro i hi hj
          have := at' (i + 1) hj
          unfold rightAt at this
          rw [Bool.and_eq_true, Bool.or_eq_true, beq_iff_eq, Nat.add_sub_cancel, kP_get hi, kP_get hj] at this
          rcases this.2 with h | h
          · omega
          · exact h
        | succ d ih =>
          intro i hi hj
          have h3 := ih i hi (by omega)
          have := at' (i + d + 2) (by omega)
          unfold rightAt at this
          rw [Bool.and_eq_true, Bool.or_eq_true, beq_iff_eq, show i + d + 2 - 1 = i + d + 1 by omega, kP_get (by omega : i + d + 1 < l.length), kP_get (by omega : i + d + 2 < l.length)] at this
          rcases this.2 with h | h
          · omega
          · exact lt_trans h3 h
      intro i j hi hj hij
      obtain ⟨d, rfl⟩ : ∃ d, j = i + d + 1 := ⟨j - i - 1, by omega⟩
      exact step d i hi hj
  · rintro ⟨h1, h2, h3⟩
    refine ⟨fun i hi => ?_, h3⟩
    have hi := List.mem_range.1 hi
    unfold rightAt
    rw [Bool.and_eq_true, kP_get hi, vP_get hi]
    refine ⟨h1 _ (List.getElem_mem hi), ?_⟩
    rw [Bool.or_eq_true, beq_iff_eq]
    by_cases e : i = 0
    · exact .inl e
    · right
      rw [kP_get (by omega : i - 1 < l.length)]
      exact (List.pairwise_iff_getElem.1 h2) (i - 1) i (by omega) hi (by omega)
/-- Binary search in what is ordered. -/
theorem bsL_spec {p : Nat → Bool} {n : Nat} (hp : ∀ i j, i < j → j < n → p j = true → p i = true) : ∀ (f : Nat) (i j : Int), (j - i).toNat < f → 0 ≤ i → i ≤ j → j ≤ n → (∀ m : Nat, (m : Int) < i → p m = true) → (∀ m : Nat, j ≤ m → m < n → p m = false) →
    (∀ m : Nat, (m : Int) < bsL f p i j → p m = true) ∧ (∀ m : Nat, bsL f p i j ≤ m → m < n → p m = false)
  | 0, i, j, h, _, _, _, _, _ => by omega
  | f + 1, i, j, h, h0, h1, h2, h3, h4 => by
    unfold bsL
    split
    · split
      · rename_i hlt hm
        refine bsL_spec hp f _ _ (by omega) (by omega) (by omega) h2 (fun m hm' => ?_) h4
        by_cases e : m = ((i + j) / 2).toNat
        · rw [e]; exact hm
        · exact hp m ((i + j) / 2).toNat (by omega) (by omega) hm
      · rename_i hlt hm
        refine bsL_spec hp f _ _ (by omega) h0 (by omega) (by omega) h3 fun m hm1 hm2 => ?_
        cases hpm : p m with
        | false => rfl
        | true =>
          exfalso
          by_cases e : m = ((i + j) / 2).toNat
          · rw [e] at hpm; exact hm hpm
          · exact hm (hp ((i + j) / 2).toNat m (by omega) hm2 hpm)
    · exact ⟨fun m hm => h3 m hm, fun m h5 h6 => h4 m (by omega) h6⟩
section
variable {l : List Value} (k : ByteArray)
theorem mono_of (ho : Ord l) : ∀ i j, i < j → j < l.length → ltB (kP l j) k = true → ltB (kP l i) k = true := by
  intro i j hij hj h
  rw [kP_get (by omega)]
  rw [kP_get hj] at h
  exact lt_trans ((List.pairwise_iff_getElem.1 ho) i j (by omega) hj hij) h
theorem bs_rfirst (ho : Ord l) : bsF l k = rfirstF l k := by
  have hp : (fun m => decide (cmpB (kP l m) k < 0)) = fun m => ltB (kP l m) k := by funext m; exact lt_cmp _ _
  have hr := bsF_range l k
  unfold bsF at hr ⊢
  unfold rfirstF
  rw [hp] at hr ⊢
  obtain ⟨h1, h2⟩ := bsL_spec (mono_of k ho) (l.length + 1) 0 l.length (by omega) (by omega) (by omega) (by omega) (fun m hm => by omega) (fun m h1 h2 => by omega)
  rw [firstN_eq (i := (bsL (l.length + 1) (fun m => ltB (kP l m) k) 0 l.length).toNat) (by omega) (fun j hj => h1 j (by omega)) (fun hlt => h2 _ (by omega) hlt)]
  omega
theorem fd_eq (ho : Ord l) : fdF l k = (decide (rfirstF l k < (l.length : Int)) && eqB (kP l (rfirstF l k).toNat) k) := by
  unfold fdF
  rw [bs_rfirst k ho, eq_cmp]
/-- Where a key stands. -/
theorem split_at (ho : Ord l) : ∃ r : Nat, rfirstF l k = r ∧ r ≤ l.length ∧ (∀ x ∈ l.take r, ltB (keyV x) k = true) ∧ ((decide (rfirstF l k < (l.length : Int)) && eqB (kP l (rfirstF l k).toNat) k) = false → ∀ x ∈ l.drop r, ltB k (keyV x) = true) ∧
    ((decide (rfirstF l k < (l.length : Int)) && eqB (kP l (rfirstF l k).toNat) k) = true → ∃ h : r < l.length, keyV l[r] = k ∧ ∀ x ∈ l.drop (r + 1), ltB k (keyV x) = true) := by
  obtain ⟨_, h2, h3, h4⟩ := firstN_ok (fun i => ltB (kP l i) k) l.length 0
  generalize hR : firstN (fun i => ltB (kP l i) k) l.length 0 = r at h2 h3 h4
  have hrf : rfirstF l k = r := by unfold rfirstF; rw [hR]
  rw [hrf, Int.toNat_natCast]
  refine ⟨r, rfl, by omega, fun x hx => ?_, fun hn x hx => ?_, fun hy => ?_⟩
  · obtain ⟨i, hi, rfl⟩ := List.getElem_of_mem hx
    rw [List.length_take] at hi
    rw [List.getElem_take]
    have := h3 i (Nat.zero_le _) (by omega)
    rwa [kP_get (by omega)] at this
  · obtain ⟨i, hi, rfl⟩ := List.getElem_of_mem hx
    rw [List.length_drop] at hi
    rw [List.getElem_drop]
    have hlt : r < l.length := by omega
    have h5 := h4 (by omega)
    rw [kP_get hlt] at h5
    rw [decide_eq_true (by omega), Bool.true_and, kP_get hlt] at hn
    have h6 : ltB k (keyV l[r]) = true := by
      rcases lt_total h5 with h | h
      · exact h
      · rw [h] at hn; rw [eqB_iff.2 rfl] at hn; cases hn
    by_cases e : i = 0
    · subst e; exact h6
    · exact lt_trans h6 ((List.pairwise_iff_getElem.1 ho) r (r + i) hlt (by omega) (by omega))
  · rw [Bool.and_eq_true, decide_eq_true_eq] at hy
    have hlt : r < l.length := by omega
    have h6 : keyV l[r] = k := by have := eqB_iff.1 hy.2; rwa [kP_get hlt] at this
    refine ⟨hlt, h6, fun x hx => ?_⟩
    obtain ⟨i, hi, rfl⟩ := List.getElem_of_mem hx
    rw [List.length_drop] at hi
    rw [List.getElem_drop, ← h6]
    exact (List.pairwise_iff_getElem.1 ho) r (r + 1 + i) hlt (by omega) (by omega)
theorem delL_filter (hw : Wf l) : ∀ n, n ≤ l.length → delL l k n = (l.take n).filter fun x => !eqB (keyV x) k
  | 0, _ => by simp [delL]
  | n + 1, h => by
    have hx : l[n]? = some l[n] := List.getElem?_eq_getElem (by omega)
    have ih := delL_filter hw n (by omega)
    have e : prV (keyV l[n]) (valV l[n]) = l[n] := (hw _ (List.getElem_mem (by omega : n < l.length))).symm
    unfold delL
    rw [ih, List.take_add_one, hx, Option.toList_some, List.filter_append, kP_get (by omega), vP_get (by omega), e]
    cases h1 : eqB (keyV l[n]) k with
    | true => rw [if_pos rfl]; simp [List.filter, h1]
    | false => rw [if_neg Bool.false_ne_true]; simp [List.filter, h1]
theorem rdel_eq (hw : Wf l) : rdelF l k = l.filter fun x => !eqB (keyV x) k := by
  unfold rdelF
  rw [delL_filter k hw _ (Nat.le_refl _), List.take_length]
theorem drop_rdel (hw : Wf l) (ho : Ord l) : dropF l k = rdelF l k := by
  rw [rdel_eq k hw]
  unfold dropF
  rw [fd_eq k ho, bs_rfirst k ho]
  obtain ⟨r, hr, hle, h1, h2, h3⟩ := split_at k ho
  have low : (l.take r).filter (fun x => !eqB (keyV x) k) = l.take r := List.filter_eq_self.2 fun x hx => by rw [lt_ne (h1 x hx)]; rfl
  split
  · rename_i hy
    obtain ⟨hlt, hk, h4⟩ := h3 hy
    have high : (l.drop (r + 1)).filter (fun x => !eqB (keyV x) k) = l.drop (r + 1) := List.filter_eq_self.2 fun x hx => by rw [gt_ne (h4 x hx)]; rfl
    have hd : l.drop r = l[r] :: l.drop (r + 1) := List.drop_eq_getElem_cons hlt
    conv => rhs; rw [← List.take_append_drop r l]
    rw [List.filter_append, low, hd, List.filter_cons, hk, eqB_iff.2 rfl, hr, Int.toNat_natCast]
    simp only [Bool.not_true, Bool.false_eq_true, if_false]
    rw [high]
  · rename_i hy
    have h4 := h2 (by simpa using hy)
    have high : (l.drop r).filter (fun x => !eqB (keyV x) k) = l.drop r := List.filter_eq_self.2 fun x hx => by rw [gt_ne (h4 x hx)]; rfl
    conv => rhs; rw [← List.take_append_drop r l]
    rw [List.filter_append, low, high, List.take_append_drop]
end
theorem right_filter {l : List Value} (p : Value → Bool) (h : RightL l) : RightL (l.filter p) := by
  obtain ⟨h1, h2⟩ := h
  rw [right_iff] at h1
  refine ⟨(right_iff _).2 ⟨fun x hx => h1.1 x (List.mem_filter.1 hx).1, h1.2.1.filter p, ?_⟩, fun x hx => h2 x (List.mem_filter.1 hx).1⟩
  have := List.length_filter_le p l
  omega
theorem may_rmay (k v : ByteArray) : rmayF k v = mayF k v := by
  unfold rmayF mayF
  congr 1
  unfold eqB lenB noB
  cases h : k.data.toList with
  | nil => rfl
  | cons a r => simp; omega
theorem setok_eq {l : List Value} (h : RightL l) (k v : ByteArray) : setokF l k v = (rmayF k v && !decide (30 < ((rsetF l k v).length : Int))) := by
  have ho := ((right_iff l).1 h.1).2
  unfold setokF
  rw [may_rmay, fd_eq k ho.1]
  congr 1
  obtain ⟨r, hr, hle, h1, h2, h3⟩ := split_at k ho.1
  unfold rsetF putF
  rw [hr, Int.toNat_natCast]
  rw [hr, Int.toNat_natCast] at h3
  cases hc : (decide ((r : Int) < (l.length : Int)) && eqB (kP l r) k) with
  | true =>
    obtain ⟨hlt, _⟩ := h3 hc
    rw [if_pos rfl]
    have : (List.take r l ++ [prV k v] ++ List.drop (r + 1) l).length = l.length := by
      simp only [List.length_append, List.length_take, List.length_drop, List.length_cons, List.length_nil]; omega
    rw [this, Bool.true_or, decide_eq_false (by omega)]; rfl
  | false =>
    rw [if_neg Bool.false_ne_true]
    have : (List.take r l ++ [prV k v] ++ List.drop r l).length = l.length + 1 := by
      simp only [List.length_append, List.length_take, List.length_drop, List.length_cons, List.length_nil]; omega
    rw [this, Bool.false_or]
    by_cases e : l.length < 30
    · rw [decide_eq_true (by omega), decide_eq_false (by omega)]; rfl
    · rw [decide_eq_false (by omega), decide_eq_true (by omega)]; rfl
theorem set_rset {l : List Value} (h : RightL l) {k v : ByteArray} (hok : setokF l k v = true) : setF l k v = rsetF l k v ∧ RightL (rsetF l k v) := by
  have ho := ((right_iff l).1 h.1).2
  have hmay := ((right_iff l).1 h.1).1
  have hok2 := setok_eq h k v
  rw [hok] at hok2
  have hok2 := hok2.symm
  rw [Bool.and_eq_true] at hok2
  have hlen : (rsetF l k v).length ≤ 30 := by
    have := hok2.2
    simp only [Bool.not_eq_true', decide_eq_false_iff_not] at this
    omega
  have hm : mayF k v = true := by rw [← may_rmay]; exact hok2.1
  refine ⟨?_, ?_⟩
  · unfold setF
    rw [if_pos hok, fd_eq k ho.1, bs_rfirst k ho.1]; rfl
  · obtain ⟨r, hr, hle, h1, h2, h3⟩ := split_at k ho.1
    have hpk : keyV (prV k v) = k := rfl
    have hpv : valV (prV k v) = v := rfl
    have mk : ∀ j, r ≤ j → (∀ x ∈ l.drop j, ltB k (keyV x) = true) → (l.take r ++ [prV k v] ++ l.drop j).length ≤ 30 → RightL (l.take r ++ [prV k v] ++ l.drop j) := by
      intro j hj hd hl
      have mem : ∀ x ∈ l.take r ++ [prV k v] ++ l.drop j, x ∈ l ∨ x = prV k v := by
        intro x hx
        rcases List.mem_append.1 hx with hx | hx
        · rcases List.mem_append.1 hx with hx | hx
          · exact .inl (List.mem_of_mem_take hx)
          · exact .inr (List.mem_singleton.1 hx)
        · exact .inl (List.mem_of_mem_drop hx)
      refine ⟨(right_iff _).2 ⟨fun x hx => ?_, ?_, hl⟩, fun x hx => ?_⟩
      · rcases mem x hx with hx | rfl
        · exact hmay x hx
        · exact hm
      · unfold Ord
        rw [List.pairwise_append, List.pairwise_append]
        refine ⟨⟨ho.1.sublist (List.take_sublist _ _), List.pairwise_singleton _ _, fun x hx y hy => ?_⟩, ho.1.sublist (List.drop_sublist _ _), fun x hx y hy => ?_⟩
        · rw [List.mem_singleton.1 hy, hpk]; exact h1 x hx
        · rcases List.mem_append.1 hx with hx | hx
          · exact lt_trans (h1 x hx) (hd y hy)
          · rw [List.mem_singleton.1 hx, hpk]; exact hd y hy
      · rcases mem x hx with hx | rfl
        · exact h.2 x hx
        · rfl
    unfold rsetF putF at hlen ⊢
    rw [hr, Int.toNat_natCast] at h2 h3 hlen ⊢
    cases hc : (decide ((r : Int) < (l.length : Int)) && eqB (kP l r) k) with
    | true =>
      rw [hc, if_pos rfl] at hlen
      rw [if_pos rfl]
      obtain ⟨_, _, h4⟩ := h3 hc
      exact mk (r + 1) (by omega) h4 hlen
    | false =>
      rw [hc, if_neg Bool.false_ne_true] at hlen
      rw [if_neg Bool.false_ne_true]
      exact mk r (by omega) (h2 hc) hlen
theorem same_self (l : List Value) : sameF l l = true := by
  unfold sameF
  rw [beq_self_eq_true, Bool.true_and]
  exact all_yes fun i _ => by unfold sameAt; rw [eqB_iff.2 rfl, eqB_iff.2 rfl]; rfl
theorem right_nil : RightL [] := ⟨rfl, fun x hx => by simp at hx⟩
end Go.Proofs.Ytddejgkfgnokgaa
end
section
namespace Go.Proofs.Ytddejgkfgnokgaa
open Go.Abs Go
set_option maxRecDepth 100000
def tailP (g : KvF) (xs ps : List Value) (I : PlL → Prop) (m : PlL → Nat) (dd : PlL) (PA PB : List Value) : Prop :=
  (((List.length PA) ≤ 1000000) ∧ ((((g.fd PA (g.key (eI xs (Int.toNat (dd.i))))) = true) → (((List.length PB) ≤ 1000000) ∧ ((((decide ((g.rfirst PB (g.key (eI xs (Int.toNat (dd.i))))) < ((List.length PB) : Int))) = true) → ((((0 : Int) ≤ (g.rfirst PB (g.key (eI xs (Int.toNat (dd.i)))))) ∧ ((g.rfirst PB (g.key (eI xs (Int.toNat (dd.i))))) < ((List.length PB) : Int))) ∧ ((((std.seq (kP PB (Int.toNat (g.rfirst PB (g.key (eI xs (Int.toNat (dd.i))))))) (g.key (eI xs (Int.toNat (dd.i))))) = true) → (((List.length PA) ≤ 1000000) ∧ ((((g.same PA PB) = true) → (((List.length PA) ≤ 1000000) ∧ ((((g.right PA) = true) → ((((0 : Int) ≤ (g.rfirst PB (g.key (eI xs (Int.toNat (dd.i)))))) ∧ ((g.rfirst PB (g.key (eI xs (Int.toNat (dd.i))))) < ((List.length PB) : Int))) ∧ ((((!(std.seq (g.get PA (g.key (eI xs (Int.toNat (dd.i))))) (vP PB (Int.toNat (g.rfirst PB (g.key (eI xs (Int.toNat (dd.i))))))))) = true) → ([(Value.bool false)] = [(Value.bool true)])) ∧ (((!(std.seq (g.get PA (g.key (eI xs (Int.toNat (dd.i))))) (vP PB (Int.toNat (g.rfirst PB (g.key (eI xs (Int.toNat (dd.i))))))))) = false) → (((List.length (dd.a)) ≤ 1000000) ∧ ((((g.same (dd.a) (dd.a)) = true) → (((List.length PA) ≤ 1000000) ∧ ((((!((g.bs PA (g.key (eI xs (Int.toNat (dd.i))))) == (g.rfirst PB (g.key (eI xs (Int.toNat (dd.i))))))) = true) → ([(Value.bool false)] = [(Value.bool true)])) ∧ (((!((g.bs PA (g.key (eI xs (Int.toNat (dd.i))))) == (g.rfirst PB (g.key (eI xs (Int.toNat (dd.i))))))) = false) → ((((-9223372036854775808 : Int) ≤ ((dd.i) + (1 : Int))) ∧ (((dd.i) + (1 : Int)) ≤ (9223372036854775807 : Int))) ∧ (∃ (ee : PlL), (([(Filler.dl xs), (Filler.dl ps), (Filler.dl (ee.a)), (Filler.dl (ee.b)), (Filler.val (Value.int IntKind.i64 (ee.i)))] = [(Filler.dl xs), (Filler.dl ps), (Filler.dl PA), (Filler.dl PB), (Filler.val (Value.int IntKind.i64 ((dd.i) + (1 : Int))))]) ∧ ((Nat.le (Nat.succ (m ee)) (m dd)) ∧ (I ee))))))))) ∧ (((g.same (dd.a) (dd.a)) = false) → ([(Value.bool false)] = [(Value.bool true)])))))))) ∧ (((g.right PA) = false) → ([(Value.bool false)] = [(Value.bool true)]))))) ∧ (((g.same PA PB) = false) → ([(Value.bool false)] = [(Value.bool true)]))))) ∧ (((std.seq (kP PB (Int.toNat (g.rfirst PB (g.key (eI xs (Int.toNat (dd.i))))))) (g.key (eI xs (Int.toNat (dd.i))))) = false) → (((List.length PA) ≤ 1000000) ∧ ((((g.same PA PB) = true) → (((List.length PA) ≤ 1000000) ∧ ((((g.right PA) = true) → ([(Value.bool false)] = [(Value.bool true)])) ∧ (((g.right PA) = false) → ([(Value.bool false)] = [(Value.bool true)]))))) ∧ (((g.same PA PB) = false) → ([(Value.bool false)] = [(Value.bool true)])))))))) ∧ (((decide ((g.rfirst PB (g.key (eI xs (Int.toNat (dd.i))))) < ((List.length PB) : Int))) = false) → (((List.length PA) ≤ 1000000) ∧ ((((g.same PA PB) = true) → (((List.length PA) ≤ 1000000) ∧ ((((g.right PA) = true) → ([(Value.bool false)] = [(Value.bool true)])) ∧ (((g.right PA) = false) → ([(Value.bool false)] = [(Value.bool true)]))))) ∧ (((g.same PA PB) = false) → ([(Value.bool false)] = [(Value.bool true)])))))))) ∧ (((g.fd PA (g.key (eI xs (Int.toNat (dd.i))))) = false) → (((List.length PB) ≤ 1000000) ∧ ((((decide ((g.rfirst PB (g.key (eI xs (Int.toNat (dd.i))))) < ((List.length PB) : Int))) = true) → ((((0 : Int) ≤ (g.rfirst PB (g.key (eI xs (Int.toNat (dd.i)))))) ∧ ((g.rfirst PB (g.key (eI xs (Int.toNat (dd.i))))) < ((List.length PB) : Int))) ∧ ((((std.seq (kP PB (Int.toNat (g.rfirst PB (g.key (eI xs (Int.toNat (dd.i))))))) (g.key (eI xs (Int.toNat (dd.i))))) = true) → (((List.length PA) ≤ 1000000) ∧ ((((g.same PA PB) = true) → (((List.length PA) ≤ 1000000) ∧ ((((g.right PA) = true) → ([(Value.bool false)] = [(Value.bool true)])) ∧ (((g.right PA) = false) → ([(Value.bool false)] = [(Value.bool true)]))))) ∧ (((g.same PA PB) = false) → ([(Value.bool false)] = [(Value.bool true)]))))) ∧ (((std.seq (kP PB (Int.toNat (g.rfirst PB (g.key (eI xs (Int.toNat (dd.i))))))) (g.key (eI xs (Int.toNat (dd.i))))) = false) → (((List.length PA) ≤ 1000000) ∧ ((((g.same PA PB) = true) → (((List.length PA) ≤ 1000000) ∧ ((((g.right PA) = true) → ((((!(std.seq (g.get PA (g.key (eI xs (Int.toNat (dd.i))))) (ByteArray.mk (Array.mk [])))) = true) → ([(Value.bool false)] = [(Value.bool true)])) ∧ (((!(std.seq (g.get PA (g.key (eI xs (Int.toNat (dd.i))))) (ByteArray.mk (Array.mk [])))) = false) → (((List.length (dd.a)) ≤ 1000000) ∧ ((((g.same (dd.a) (dd.a)) = true) → (((List.length PA) ≤ 1000000) ∧ ((((!((g.bs PA (g.key (eI xs (Int.toNat (dd.i))))) == (g.rfirst PB (g.key (eI xs (Int.toNat (dd.i))))))) = true) → ([(Value.bool false)] = [(Value.bool true)])) ∧ (((!((g.bs PA (g.key (eI xs (Int.toNat (dd.i))))) == (g.rfirst PB (g.key (eI xs (Int.toNat (dd.i))))))) = false) → ((((-9223372036854775808 : Int) ≤ ((dd.i) + (1 : Int))) ∧ (((dd.i) + (1 : Int)) ≤ (9223372036854775807 : Int))) ∧ (∃ (ee : PlL), (([(Filler.dl xs), (Filler.dl ps), (Filler.dl (ee.a)), (Filler.dl (ee.b)), (Filler.val (Value.int IntKind.i64 (ee.i)))] = [(Filler.dl xs), (Filler.dl ps), (Filler.dl PA), (Filler.dl PB), (Filler.val (Value.int IntKind.i64 ((dd.i) + (1 : Int))))]) ∧ ((Nat.le (Nat.succ (m ee)) (m dd)) ∧ (I ee))))))))) ∧ (((g.same (dd.a) (dd.a)) = false) → ([(Value.bool false)] = [(Value.bool true)]))))))) ∧ (((g.right PA) = false) → ([(Value.bool false)] = [(Value.bool true)]))))) ∧ (((g.same PA PB) = false) → ([(Value.bool false)] = [(Value.bool true)])))))))) ∧ (((decide ((g.rfirst PB (g.key (eI xs (Int.toNat (dd.i))))) < ((List.length PB) : Int))) = false) → (((List.length PA) ≤ 1000000) ∧ ((((g.same PA PB) = true) → (((List.length PA) ≤ 1000000) ∧ ((((g.right PA) = true) → ((((!(std.seq (g.get PA (g.key (eI xs (Int.toNat (dd.i))))) (ByteArray.mk (Array.mk [])))) = true) → ([(Value.bool false)] = [(Value.bool true)])) ∧ (((!(std.seq (g.get PA (g.key (eI xs (Int.toNat (dd.i))))) (ByteArray.mk (Array.mk [])))) = false) → (((List.length (dd.a)) ≤ 1000000) ∧ ((((g.same (dd.a) (dd.a)) = true) → (((List.length PA) ≤ 1000000) ∧ ((((!((g.bs PA (g.key (eI xs (Int.toNat (dd.i))))) == (g.rfirst PB (g.key (eI xs (Int.toNat (dd.i))))))) = true) → ([(Value.bool false)] = [(Value.bool true)])) ∧ (((!((g.bs PA (g.key (eI xs (Int.toNat (dd.i))))) == (g.rfirst PB (g.key (eI xs (Int.toNat (dd.i))))))) = false) → ((((-9223372036854775808 : Int) ≤ ((dd.i) + (1 : Int))) ∧ (((dd.i) + (1 : Int)) ≤ (9223372036854775807 : Int))) ∧ (∃ (ee : PlL), (([(Filler.dl xs), (Filler.dl ps), (Filler.dl (ee.a)), (Filler.dl (ee.b)), (Filler.val (Value.int IntKind.i64 (ee.i)))] = [(Filler.dl xs), (Filler.dl ps), (Filler.dl PA), (Filler.dl PB), (Filler.val (Value.int IntKind.i64 ((dd.i) + (1 : Int))))]) ∧ ((Nat.le (Nat.succ (m ee)) (m dd)) ∧ (I ee))))))))) ∧ (((g.same (dd.a) (dd.a)) = false) → ([(Value.bool false)] = [(Value.bool true)]))))))) ∧ (((g.right PA) = false) → ([(Value.bool false)] = [(Value.bool true)]))))) ∧ (((g.same PA PB) = false) → ([(Value.bool false)] = [(Value.bool true)]))))))))))
def bodyP (g : KvF) (xs ps : List Value) (I : PlL → Prop) (m : PlL → Nat) (dd : PlL) (PA PB : ByteArray) : Prop :=
  ((((List.length (dd.a)) * 32) ≤ 140737488355328) ∧ ((((0 : Int) ≤ (dd.i)) ∧ ((dd.i) < ((List.length xs) : Int))) ∧ (((0 : Int) < (5 : Int)) ∧ (((((std.rem (eI xs (Int.toNat (dd.i))) (5 : Int)) == (4 : Int)) = true) → (((List.length (dd.a)) ≤ 1000000) ∧ (((List.length (dd.b)) ≤ 1000000) ∧ (tailP g xs ps I m dd (g.del (dd.a) (g.key (eI xs (Int.toNat (dd.i))))) (g.rdel (dd.b) (g.key (eI xs (Int.toNat (dd.i))))))))) ∧ ((((std.rem (eI xs (Int.toNat (dd.i))) (5 : Int)) == (4 : Int)) = false) → (((List.length (dd.a)) ≤ 1000000) ∧ ((((g.setok (dd.a) PA PB) = true) → (True ∧ ((((g.rmay PA PB) = true) → (((List.length (dd.b)) ≤ 1000000) ∧ ((((decide ((30 : Int) < ((List.length (g.rset (dd.b) PA PB)) : Int))) = true) → ([(Value.bool false)] = [(Value.bool true)])) ∧ (((decide ((30 : Int) < ((List.length (g.rset (dd.b) PA PB)) : Int))) = false) → (((List.length (dd.b)) ≤ 1000000) ∧ (tailP g xs ps I m dd (g.set (dd.a) PA PB) (g.rset (dd.b) PA PB))))))) ∧ (((g.rmay PA PB) = false) → ([(Value.bool false)] = [(Value.bool true)]))))) ∧ (((g.setok (dd.a) PA PB) = false) → (True ∧ ((((g.rmay PA PB) = true) → (((List.length (dd.b)) ≤ 1000000) ∧ ((((decide ((30 : Int) < ((List.length (g.rset (dd.b) PA PB)) : Int))) = true) → (tailP g xs ps I m dd (g.set (dd.a) PA PB) (dd.b))) ∧ (((decide ((30 : Int) < ((List.length (g.rset (dd.b) PA PB)) : Int))) = false) → ([(Value.bool false)] = [(Value.bool true)]))))) ∧ (((g.rmay PA PB) = false) → (tailP g xs ps I m dd (g.set (dd.a) PA PB) (dd.b)))))))))))))
end Go.Proofs.Ytddejgkfgnokgaa
end
section
namespace Go.Proofs.Ytddejgkfgnokgaa
open Go.RowKit Go.Abs Go
def playsI (xs : List Value) (d : PlL) : Prop := ∃ i : Nat, d.i = i ∧ i ≤ 30 ∧ i ≤ xs.length ∧ d.a = d.b ∧ RightL d.a
def playsM (d : PlL) : Nat := (30 - d.i).toNat
theorem tail_ok (xs ps : List Value) {d : PlL} {i : Nat} (hi : d.i = i) (h30 : i < 30) (hx : i < xs.length) (hd : RightL d.a) {A : List Value} (hA : RightL A) : tailP kvF xs ps (playsI xs) playsM d A A := by
  have ho := ((right_iff A).1 hA.1).2
  have hl : A.length ≤ 1000000 := by omega
  have hl' : d.a.length ≤ 1000000 := by have := ((right_iff d.a).1 hd.1).2.2; omega
  unfold tailP
  generalize kvF.key (eI xs d.i.toNat) = k
  have hb := bs_rfirst k ho.1
  have hfd := fd_eq k ho.1
  have hrr := rfirst_range A k
  have fin : (!(bsF A k == rfirstF A k)) = true → [Value.bool false] = [Value.bool true] := fun h => by rw [hb] at h; simp at h
  have next : (-9223372036854775808 ≤ d.i + 1 ∧ d.i + 1 ≤ 9223372036854775807) ∧ ∃ ee : PlL, [Filler.dl xs, Filler.dl ps, Filler.dl ee.a, Filler.dl ee.b, Filler.val (Value.int IntKind.i64 ee.i)] = [Filler.dl xs, Filler.dl ps, Filler.dl A, Filler.dl A, Filler.val (Value.int IntKind.i64 (d.i + 1))] ∧ Nat.le (Nat.succ (playsM ee)) (playsM d) ∧ playsI xs ee := by
    refine ⟨by omega, ⟨d.i + 1, A, A⟩, rfl, ?_, i + 1, by show d.i + 1 = _; omega, by omega, by omega, rfl, hA⟩
    show (30 - (d.i + 1)).toNat + 1 ≤ (30 - d.i).toNat
    omega
  have hs : kvF.same A A = true := same_self A
  have hsd : kvF.same d.a d.a = true := same_self d.a
  have hr : kvF.right A = true := hA.1
  have nos : ∀ {X : Prop}, (kvF.same A A = false → X) := fun h => by rw [hs] at h; cases h
  have nosd : ∀ {X : Prop}, (kvF.same d.a d.a = false → X) := fun h => by rw [hsd] at h; cases h
  have nor : ∀ {X : Prop}, (kvF.right A = false → X) := fun h => by rw [hr] at h; cases h
  refine ⟨hl, fun h1 => ?_, fun h1 => ?_⟩ <;> refine ⟨hl, fun h2 => ?_, fun h2 => ?_⟩
  · have h1 : fdF A k = true := h1
    have h2' : rfirstF A k < (A.length : Int) := of_decide_eq_true h2
    refine ⟨⟨hrr.1, h2'⟩, fun h3 => ?_, fun h3 => ?_⟩
    · refine ⟨hl, fun _ => ⟨hl, fun _ => ⟨⟨hrr.1, h2'⟩, fun h4 => ?_, fun _ => ⟨hl', fun _ => ⟨hl, fin, fun _ => next⟩, nosd⟩⟩, nor⟩, nos⟩
      exfalso
      have h4 : (!eqB (getF A k) (vP A (rfirstF A k).toNat)) = true := h4
      unfold getF at h4
      rw [if_pos h1, hb, eqB_iff.2 rfl] at h4
      cases h4
    · exfalso
      have h3 : eqB (kP A (rfirstF A k).toNat) k = false := h3
      rw [hfd, h3, Bool.and_false] at h1; cases h1
  · exfalso
    have h1 : fdF A k = true := h1
    have h2 : decide (rfirstF A k < (A.length : Int)) = false := h2
    rw [hfd, h2, Bool.false_and] at h1; cases h1
  · have h1 : fdF A k = false := h1
    have h2' : rfirstF A k < (A.length : Int) := of_decide_eq_true h2
    refine ⟨⟨hrr.1, h2'⟩, fun h3 => ?_, fun h3 => ?_⟩
    · exfalso
      have h2 : decide (rfirstF A k < (A.length : Int)) = true := h2
      have h3 : eqB (kP A (rfirstF A k).toNat) k = true := h3
      rw [hfd, h2, h3] at h1; cases h1
    · refine ⟨hl, fun _ => ⟨hl, fun _ => ⟨fun h4 => ?_, fun _ => ⟨hl', fun _ => ⟨hl, fin, fun _ => next⟩, nosd⟩⟩, nor⟩, nos⟩
      exfalso
      have h4 : (!eqB (getF A k) noB) = true := h4
      unfold getF at h4
      rw [if_neg (by rw [h1]; exact Bool.false_ne_true), eqB_iff.2 rfl] at h4
      cases h4
  · have h1 : fdF A k = false := h1
    refine ⟨hl, fun _ => ⟨hl, fun _ => ⟨fun h4 => ?_, fun _ => ⟨hl', fun _ => ⟨hl, fin, fun _ => next⟩, nosd⟩⟩, nor⟩, nos⟩
    exfalso
    have h4 : (!eqB (getF A k) noB) = true := h4
    unfold getF at h4
    rw [if_neg (by rw [h1]; exact Bool.false_ne_true), eqB_iff.2 rfl] at h4
    cases h4
theorem body_ok (xs ps : List Value) {d : PlL} {i : Nat} (hi : d.i = i) (h30 : i < 30) (hx : i < xs.length) (hab : d.a = d.b) (hd : RightL d.a) (k v : ByteArray) : bodyP kvF xs ps (playsI xs) playsM d k v := by
  have ho := ((right_iff d.a).1 hd.1).2
  have hl : d.a.length ≤ 1000000 := by omega
  unfold bodyP
  rw [← hab]
  have hok := setok_eq hd k v
  refine ⟨by omega, by omega, by decide, fun _ => ⟨hl, hl, ?_⟩, fun _ => ⟨hl, fun h1 => ⟨trivial, fun h2 => ⟨hl, fun h3 => ?_, fun h3 => ⟨hl, ?_⟩⟩, fun h2 => ?_⟩, fun h1 => ⟨trivial, fun h2 => ⟨hl, fun h3 => ?_, fun h3 => ?_⟩, fun h2 => ?_⟩⟩⟩
  · show tailP kvF xs ps (playsI xs) playsM d (dropF d.a (keyF (eI xs d.i.toNat))) (rdelF d.a (keyF (eI xs d.i.toNat)))
    rw [drop_rdel _ hd.2 ho.1]
    refine tail_ok xs ps hi h30 hx hd ?_
    rw [rdel_eq _ hd.2]
    exact right_filter _ hd
  · exfalso
    have h1 : setokF d.a k v = true := h1
    have h3 : decide (30 < ((rsetF d.a k v).length : Int)) = true := h3
    rw [hok, h3] at h1; simp at h1
  · obtain ⟨e1, e2⟩ := set_rset hd (k := k) (v := v) h1
    show tailP kvF xs ps (playsI xs) playsM d (setF d.a k v) (rsetF d.a k v)
    rw [e1]
    exact tail_ok xs ps hi h30 hx hd e2
  · exfalso
    have h1 : setokF d.a k v = true := h1
    have h2 : rmayF k v = false := h2
    rw [hok, h2] at h1; cases h1
  · have h1 : setokF d.a k v = false := h1
    have e : setF d.a k v = d.a := by unfold setF; rw [if_neg (by rw [h1]; exact Bool.false_ne_true)]
    show tailP kvF xs ps (playsI xs) playsM d (setF d.a k v) d.a
    rw [e]
    exact tail_ok xs ps hi h30 hx hd hd
  · exfalso
    have h1 : setokF d.a k v = false := h1
    have h2 : rmayF k v = true := h2
    have h3 : decide (30 < ((rsetF d.a k v).length : Int)) = false := h3
    rw [hok, h2, h3] at h1; cases h1
  · have h1 : setokF d.a k v = false := h1
    have e : setF d.a k v = d.a := by unfold setF; rw [if_neg (by rw [h1]; exact Bool.false_ne_true)]
    show tailP kvF xs ps (playsI xs) playsM d (setF d.a k v) d.a
    rw [e]
    exact tail_ok xs ps hi h30 hx hd hd
theorem tdiv12 {x : Int} (h : -9223372036854775808 ≤ x ∧ x ≤ 9223372036854775807) : -9223372036854775808 ≤ x.tdiv 12 ∧ x.tdiv 12 ≤ 9223372036854775807 := by
  rcases Int.le_total 0 x with h0 | h0
  · rw [Int.tdiv_eq_ediv_of_nonneg h0]; omega
  · have : x.tdiv 12 = -((-x) / 12) := by
      rw [← Int.tdiv_eq_ediv_of_nonneg (by omega : 0 ≤ -x), Int.neg_tdiv, Int.neg_neg]
    rw [this]; omega
end Go.Proofs.Ytddejgkfgnokgaa
end
section
namespace Go.Proofs.Ytddejgkfgnokgaa
open Go.RowKit Go.Abs Go
set_option maxRecDepth 100000
theorem inI_std {n : Int} (h : inI std n) : -9223372036854775808 ≤ n ∧ n ≤ 9223372036854775807 := by
  obtain ⟨h1, h2⟩ := h
  have h1 : -9223372036854775808 ≤ n := h1
  have h2 : n ≤ 9223372036854775807 := h2
  exact ⟨h1, h2⟩
theorem withinCon_ok : ConOk Try.prog (withinCon std) := conL_ok fun x hx => by rw [List.mem_singleton.1 hx]; exact withinC_ok
def IntsOk (xs : List Value) : Prop := ∀ i, i < xs.length → -9223372036854775808 ≤ eI xs i ∧ eI xs i ≤ 9223372036854775807
/-- KvPlays, of lists of numbers. -/
noncomputable def playsQ : PF := pf (.cons cIs (.cons cP .nil)) (fun d => IntsOk d.1) [.bool false] fun _ => [.bool true]
end Go.Proofs.Ytddejgkfgnokgaa
end
section
namespace Go.Proofs.Ytddejgkfgnokgaa
open Go.Abs Go
end Go.Proofs.Ytddejgkfgnokgaa
end
section
namespace Go.Proofs.Ytddejgkfgnokgaa
open Go.RowKit Go.Abs Go
set_option maxRecDepth 100000
theorem esF_zero (xs : List Value) : esF xs 0 = [] := rfl
theorem esF_next (xs : List Value) (i : Nat) : esF xs (i + 1) = mput zS (esF xs i) (.string (keyF (eI xs i))) (.string (txtF (Int.tdiv (eI xs i) 12))) := rfl
theorem outL_len (es : List (Value × Value)) : ∀ i, (outL es i).length ≤ i
  | 0 => Nat.le_refl _
  | i + 1 => by
    have := outL_len es i
    unfold outL
    split
    · simp; omega
    · omega
def pairI (xs : List Value) (d : PaL) : Prop := ∃ i : Nat, d.i = i ∧ i ≤ xs.length ∧ i ≤ 12 ∧ d.es = esF xs i
def pairJ (xs : List Value) (d : PaM) : Prop := d.n = 12 ∧ d.es = esF xs (min xs.length 12) ∧ ∃ i : Nat, d.i = i ∧ i ≤ 12 ∧ d.r = outL d.es i
theorem keysV_len : keysV.length = 12 := rfl
theorem tdiv_small {n : Int} (h : -9223372036854775808 ≤ n ∧ n ≤ 9223372036854775807) : -9223372036854775808 ≤ Int.tdiv n 12 ∧ Int.tdiv n 12 ≤ 9223372036854775807 := by
  have h1 : (Int.tdiv n 12).natAbs = n.natAbs / 12 := Int.natAbs_tdiv n 12
  omega
theorem pairs2 (xs : List Value) {es : List (Value × Value)} (he : es = esF xs (min xs.length 12)) : (∃ (d14 : PaM), (([(Filler.dl (d14.r)), (Filler.dl keysV), (Filler.val (Value.int IntKind.i64 (d14.n))), (Filler.val (Value.int IntKind.i64 (d14.i))), (Filler.me (d14.es))] = [(Filler.dl []), (Filler.dl [(Value.string (ByteArray.mk (Array.mk [(97 : UInt8)]))), (Value.string (ByteArray.mk (Array.mk [(97 : UInt8), (98 : UInt8)]))), (Value.string (ByteArray.mk (Array.mk [(97 : UInt8), (98 : UInt8), (99 : UInt8)]))), (Value.string (ByteArray.mk (Array.mk [(98 : UInt8)]))), (Value.string (ByteArray.mk (Array.mk [(98 : UInt8), (97 : UInt8)]))), (Value.string (ByteArray.mk (Array.mk [(115 : UInt8), (47 : UInt8), (97 : UInt8)]))), (Value.string (ByteArray.mk (Array.mk [(115 : UInt8), (47 : UInt8), (98 : UInt8)]))), (Value.string (ByteArray.mk (Array.mk [(115 : UInt8), (47 : UInt8), (99 : UInt8)]))), (Value.string (ByteArray.mk (Array.mk [(116 : UInt8)]))), (Value.string (ByteArray.mk (Array.mk [(117 : UInt8)]))), (Value.string (ByteArray.mk (Array.mk [(122 : UInt8)]))), (Value.string (ByteArray.mk (Array.mk [(122 : UInt8), (122 : UInt8)])))]), (Filler.val (Value.int IntKind.i64 (12 : Int))), (Filler.val (Value.int IntKind.i64 (0 : Int))), (Filler.me es)]) ∧ ((pairJ xs d14) ∧ (∀ (d15 : PaM), ((pairJ xs d15) → ((((decide ((d15.i) < (d15.n))) = true) → ((((0 : Int) ≤ (d15.i)) ∧ ((d15.i) < ((List.length keysV) : Int))) ∧ ((((std.mhas (Value.string (ByteArray.mk (Array.mk []))) (d15.es) (Value.string (eS keysV (Int.toNat (d15.i))))) = true) → ((((List.length ((d15.r) ++ [(Value.agg (Array.mk [(Value.string (eS keysV (Int.toNat (d15.i)))), (Value.string (std.dstr (std.mget (Value.string (ByteArray.mk (Array.mk []))) (Value.string (ByteArray.mk (Array.mk []))) (d15.es) (Value.string (eS keysV (Int.toNat (d15.i)))))))]))])) * 32) ≤ 140737488355328) ∧ ((((-9223372036854775808 : Int) ≤ ((d15.i) + (1 : Int))) ∧ (((d15.i) + (1 : Int)) ≤ (9223372036854775807 : Int))) ∧ (∃ (d19 : PaM), (([(Filler.dl (d19.r)), (Filler.dl keysV), (Filler.val (Value.int IntKind.i64 (d19.n))), (Filler.val (Value.int IntKind.i64 (d19.i))), (Filler.me (d19.es))] = [(Filler.dl ((d15.r) ++ [(Value.agg (Array.mk [(Value.string (eS keysV (Int.toNat (d15.i)))), (Value.string (std.dstr (std.mget (Value.string (ByteArray.mk (Array.mk []))) (Value.string (ByteArray.mk (Array.mk []))) (d15.es) (Value.string (eS keysV (Int.toNat (d15.i)))))))]))])), (Filler.dl keysV), (Filler.val (Value.int IntKind.i64 (d15.n))), (Filler.val (Value.int IntKind.i64 ((d15.i) + (1 : Int)))), (Filler.me (d15.es))]) ∧ ((Nat.le (Nat.succ ((fun d : PaM => (d.n - d.i).toNat) d19)) ((fun d : PaM => (d.n - d.i).toNat) d15)) ∧ (pairJ xs d19))))))) ∧ (((std.mhas (Value.string (ByteArray.mk (Array.mk []))) (d15.es) (Value.string (eS keysV (Int.toNat (d15.i))))) = false) → ((((-9223372036854775808 : Int) ≤ ((d15.i) + (1 : Int))) ∧ (((d15.i) + (1 : Int)) ≤ (9223372036854775807 : Int))) ∧ (∃ (d19 : PaM), (([(Filler.dl (d19.r)), (Filler.dl keysV), (Filler.val (Value.int IntKind.i64 (d19.n))), (Filler.val (Value.int IntKind.i64 (d19.i))), (Filler.me (d19.es))] = [(Filler.dl (d15.r)), (Filler.dl keysV), (Filler.val (Value.int IntKind.i64 (d15.n))), (Filler.val (Value.int IntKind.i64 ((d15.i) + (1 : Int)))), (Filler.me (d15.es))]) ∧ ((Nat.le (Nat.succ ((fun d : PaM => (d.n - d.i).toNat) d19)) ((fun d : PaM => (d.n - d.i).toNat) d15)) ∧ (pairJ xs d19))))))))) ∧ (((decide ((d15.i) < (d15.n))) = false) → ([(dsl zP (d15.r))] = [(dsl zP (kvF.pairs xs))])))))))) := by
  refine ⟨⟨[], 12, 0, es⟩, rfl, ⟨rfl, he, 0, rfl, Nat.zero_le _, rfl⟩, fun d ⟨hn, hes, i, hi, hle, hr⟩ => ⟨fun h => ?_, fun h => ?_⟩⟩
  · have h := of_decide_eq_true h
    have hlt : i < 12 := by omega
    have hlen := outL_len d.es i
    have ho : outL d.es (i + 1) = if mhas zS d.es (.string (eS keysV i)) then outL d.es i ++ [prV (eS keysV i) (dstr (mget zS zS d.es (.string (eS keysV i))))] else outL d.es i := rfl
    rw [hi, Int.toNat_natCast]
    refine ⟨⟨by omega, by rw [keysV_len]; omega⟩, fun e => ⟨?_, by omega, ⟨d.r ++ [prV (eS keysV i) (dstr (mget zS zS d.es (.string (eS keysV i))))], d.n, (i : Int) + 1, d.es⟩, rfl, ?_, hn, hes, i + 1, rfl, hlt, ?_⟩, fun e => ⟨by omega, ⟨d.r, d.n, (i : Int) + 1, d.es⟩, rfl, ?_, hn, hes, i + 1, rfl, hlt, ?_⟩⟩
    · rw [hr, List.length_append]; show ((outL d.es i).length + 1) * 32 ≤ _; omega
    · show (d.n - ((i : Int) + 1)).toNat + 1 ≤ (d.n - d.i).toNat; omega
    · show d.r ++ _ = outL d.es (i + 1)
      rw [ho, if_pos (show mhas zS d.es (.string (eS keysV i)) = true from e), hr]
    · show (d.n - ((i : Int) + 1)).toNat + 1 ≤ (d.n - d.i).toNat; omega
    · show d.r = outL d.es (i + 1)
      rw [ho, if_neg (by rw [show mhas zS d.es (.string (eS keysV i)) = false from e]; exact Bool.false_ne_true), hr]
  · have h := of_decide_eq_false h
    show [dsl zP d.r] = [dsl zP (pairsF xs)]
    rw [hr, hes, show i = 12 by omega]; rfl
/-- Values are among the texts. -/
theorem txt_small (n : Int) : lenB (txtF n) ≤ 8 := by
  have : ∀ k, k < 5 → lenB (eS txtsV k) ≤ 8 := by decide +kernel
  exact this _ (by omega)
def ValsOk (es : List (Value × Value)) : Prop := ∀ e ∈ es, ∃ s, e.2 = .string s ∧ lenB s ≤ 8
theorem mput_vals {kz k : Value} {s : ByteArray} (hs : lenB s ≤ 8) : ∀ {es : List (Value × Value)}, ValsOk es → ValsOk (mput kz es k (.string s))
  | [], _, e, he => by rw [List.mem_singleton.1 he]; exact ⟨s, rfl, hs⟩
  | e0 :: es, h, e, he => by
    unfold mput at he
    split at he
    · rcases List.mem_cons.1 he with rfl | he
      · exact ⟨s, rfl, hs⟩
      · exact h e (List.mem_cons_of_mem _ he)
    · rcases List.mem_cons.1 he with rfl | he
      · exact h _ (List.mem_cons_self ..)
      · exact mput_vals hs (fun e he => h e (List.mem_cons_of_mem _ he)) e he
theorem es_vals (xs : List Value) : ∀ n, ValsOk (esF xs n)
  | 0, e, he => by cases he
  | n + 1, e, he => mput_vals (txt_small _) (es_vals xs n) e he
theorem mget_small {kz k : Value} : ∀ {es : List (Value × Value)}, ValsOk es → lenB (dstr (mget kz zS es k)) ≤ 8
  | [], _ => by show 0 ≤ 8; omega
  | e0 :: es, h => by
    by_cases c : keyB kz e0.1 k = true
    · obtain ⟨s, h1, h2⟩ := h e0 (List.mem_cons_self ..)
      have : mget kz zS (e0 :: es) k = e0.2 := by unfold mget mfind; rw [if_pos c]; rfl
      rw [this, h1]; exact h2
    · have : mget kz zS (e0 :: es) k = mget kz zS es k := by unfold mget; rw [show mfind kz (e0 :: es) k = mfind kz es k by rw [mfind, if_neg c]]
      rw [this]
      exact mget_small fun e he => h e (List.mem_cons_of_mem _ he)
theorem out_mem {es : List (Value × Value)} (h : ValsOk es) : ∀ {i : Nat} {x : Value}, x ∈ outL es i → ∃ j s, j < i ∧ x = prV (eS keysV j) s ∧ lenB s ≤ 8
  | 0, x, hx => by cases hx
  | i + 1, x, hx => by
    unfold outL at hx
    split at hx
    · rcases List.mem_append.1 hx with hx | hx
      · obtain ⟨j, s, h1, h2⟩ := out_mem h hx
        exact ⟨j, s, by omega, h2⟩
      · exact ⟨i, _, by omega, List.mem_singleton.1 hx, mget_small h⟩
    · obtain ⟨j, s, h1, h2⟩ := out_mem h hx
      exact ⟨j, s, by omega, h2⟩
theorem keys_rise : ∀ j, j < 12 → ∀ i, i < j → ltB (eS keysV i) (eS keysV j) = true := by decide +kernel
theorem keys_small : ∀ j, j < 12 → eqB (eS keysV j) noB = false ∧ lenB (eS keysV j) ≤ 16 := by decide +kernel
theorem out_ord {es : List (Value × Value)} (h : ValsOk es) : ∀ {i : Nat}, i ≤ 12 → Ord (outL es i)
  | 0, _ => List.Pairwise.nil
  | i + 1, hi => by
    have ih := out_ord h (i := i) (by omega)
    unfold outL
    split
    · refine List.pairwise_append.2 ⟨ih, List.pairwise_singleton _ _, fun a ha b hb => ?_⟩
      obtain ⟨j, s, h1, rfl, h3⟩ := out_mem h ha
      rw [List.mem_singleton.1 hb]
      exact keys_rise i (by omega) j h1
    · exact ih
theorem pairs_right (xs : List Value) : RightL (pairsF xs) := by
  have hv := es_vals xs (min xs.length 12)
  have hm := fun {x} => out_mem hv (i := 12) (x := x)
  refine ⟨(right_iff _).2 ⟨fun x hx => ?_, out_ord hv (Nat.le_refl _), ?_⟩, fun x hx => ?_⟩
  · obtain ⟨j, s, h1, rfl, h3⟩ := hm hx
    have := keys_small j h1
    show mayF (eS keysV j) s = true
    unfold mayF
    rw [this.1, decide_eq_true (by omega), decide_eq_true (by omega)]; rfl
  · have := outL_len (esF xs (min xs.length 12)) 12
    show (outL _ 12).length ≤ 30
    omega
  · obtain ⟨j, s, h1, rfl, h3⟩ := hm hx
    rfl
end Go.Proofs.Ytddejgkfgnokgaa
end
section
namespace Go.Proofs.Ytddejgkfgnokgaa
open Go.RowKit Go.Abs Go
theorem shr7' (n : Int) : std.shr .i64 n 7 = n / 128 := by
  show n.fdiv 128 = n / 128
  exact Int.fdiv_eq_ediv_of_nonneg n (by omega)
theorem oneL_len : ∀ (f : Nat) (n : Int), (oneL f n).length ≤ f
  | 0, _ => Nat.le_refl _
  | f + 1, n => by
    unfold oneL
    split
    · have := oneL_len f (std.shr .i64 n 7)
      simp; omega
    · simp
def oneI (n : Int) (d : OneL) : Prop := ∃ f : Nat, d.r ++ oneL (f + 1) d.n = oneF n ∧ 0 ≤ d.n ∧ d.n < 128 ^ (f + 1) ∧ d.r.length + f ≤ 6
def textL (xs : List Value) : Nat → List Value
  | 0 => []
  | i + 1 => textL xs i ++ (oneF (lenB (eS xs i) : Int) ++ std.svals (eS xs i))
theorem textL_eq (xs : List Value) : ∀ n, textL xs n = (List.range n).flatMap fun i => oneF (lenB (eS xs i) : Int) ++ std.svals (eS xs i)
  | 0 => rfl
  | n + 1 => by unfold textL; rw [textL_eq xs n, List.range_succ, List.flatMap_append]; simp
theorem svals_len (s : ByteArray) : (std.svals s).length = lenB s := List.length_map ..
theorem textL_len {xs : List Value} (hl : ∀ i, i < xs.length → lenB (eS xs i) ≤ 1000000) : ∀ i, i ≤ xs.length → (textL xs i).length ≤ i * 1000007
  | 0, _ => by simp [textL]
  | i + 1, h => by
    have h1 := textL_len hl i (by omega)
    have h2 := hl i (by omega)
    have h3 := oneL_len 7 (lenB (eS xs i) : Int)
    unfold textL
    rw [List.length_append, List.length_append, svals_len]
    show _ + ((oneL 7 _).length + _) ≤ _
    omega
theorem svals_inj {s t : ByteArray} (h : std.svals s = std.svals t) : s = t := by
  have h : (s.data.toList.map fun b : UInt8 => Value.int .u8 b.toNat) = t.data.toList.map fun b : UInt8 => Value.int .u8 b.toNat := h
  have : s.data.toList = t.data.toList := by
    refine List.map_inj_right (fun a b e => ?_) |>.1 h
    simp only [Value.int.injEq, true_and] at e
    rw [u8_eq']; omega
  exact eqB_iff.1 (by unfold eqB; rw [this]; exact beq_self_eq_true _)
where u8_eq' {a b : UInt8} : a = b ↔ a.toNat = b.toNat := UInt8.toNat_inj.symm
/-- Small texts tell what they were made of. -/
theorem leaf_inj {k v k' v' : ByteArray} (h1 : lenB k ≤ 127) (h2 : lenB k' ≤ 127) (h : leafF k v = leafF k' v') : k = k' := by
  have small : ∀ s : ByteArray, lenB s ≤ 127 → oneF (lenB s : Int) = [.int .u8 (lenB s : Int)] := fun s hs => by
    unfold oneF oneL
    rw [if_neg (by omega)]
    have : std.wrap .u8 (lenB s : Int) = (lenB s : Int) := by
      show (lenB s : Int) % 256 = _
      omega
    rw [this]
  have e : ∀ a b : ByteArray, leafF a b = oneF (lenB a : Int) ++ std.svals a ++ (oneF (lenB b : Int) ++ std.svals b ++ []) := fun a b => rfl
  rw [e, e, small k h1, small k' h2] at h
  simp only [List.cons_append, List.nil_append, List.cons.injEq, Value.int.injEq, true_and] at h
  exact svals_inj (List.append_inj h.2 (by rw [svals_len, svals_len]; omega)).1
end Go.Proofs.Ytddejgkfgnokgaa
end
section
namespace Go.Proofs.Ytddejgkfgnokgaa
open Go.RowKit Go.Abs Go
theorem bs_idx {l : List Value} (ho : Ord l) (k : ByteArray) : ∃ r : Nat, bsF l k = r ∧ r ≤ l.length ∧ (∀ i, i < r → ltB (kP l i) k = true) ∧ ∀ i, r ≤ i → i < l.length → ltB (kP l i) k = false := by
  have hr := bsF_range l k
  have hb := bs_rfirst k ho
  obtain ⟨h1, h2, h3, h4⟩ := firstN_ok (fun i => ltB (kP l i) k) l.length 0
  generalize hR : firstN (fun i => ltB (kP l i) k) l.length 0 = r at h1 h2 h3 h4
  have he : bsF l k = r := by rw [hb]; unfold rfirstF; rw [hR]
  refine ⟨r, he, by omega, fun i hi => h3 i (Nat.zero_le _) hi, fun i h5 h6 => ?_⟩
  cases hc : ltB (kP l i) k with
  | false => rfl
  | true =>
    have h7 := h4 (by omega)
    rcases Nat.lt_or_ge r i with h | h
    · rw [mono_of k ho r i h h6 hc] at h7; cases h7
    · rw [show i = r by omega] at hc; rw [hc] at h7; cases h7
theorem filter_idx {l : List Value} {p : Value → Bool} {i0 i1 : Nat} (h0 : i0 ≤ i1) (h1 : i1 ≤ l.length) (hp : ∀ i (h : i < l.length), p l[i] = decide (i0 ≤ i ∧ i < i1)) : l.filter p = (l.drop i0).take (i1 - i0) := by
  have hs : l = l.take i0 ++ ((l.drop i0).take (i1 - i0) ++ l.drop i1) := by
    conv => lhs; rw [← List.take_append_drop i0 l]
    congr 1
    conv => lhs; rw [← List.take_append_drop (i1 - i0) (l.drop i0)]
    rw [List.drop_drop, show i0 + (i1 - i0) = i1 by omega]
  conv => lhs; rw [hs]
  rw [List.filter_append, List.filter_append]
  have e1 : (l.take i0).filter p = [] := List.filter_eq_nil_iff.2 fun x hx => by
    obtain ⟨i, hi, rfl⟩ := List.getElem_of_mem hx
    rw [List.length_take] at hi
    rw [List.getElem_take, hp i (by omega), decide_eq_false (by omega)]; exact Bool.false_ne_true
  have e2 : ((l.drop i0).take (i1 - i0)).filter p = (l.drop i0).take (i1 - i0) := List.filter_eq_self.2 fun x hx => by
    obtain ⟨i, hi, rfl⟩ := List.getElem_of_mem hx
    rw [List.length_take, List.length_drop] at hi
    rw [List.getElem_take, List.getElem_drop, hp _ (by omega)]
    exact decide_eq_true (by omega)
  have e3 : (l.drop i1).filter p = [] := List.filter_eq_nil_iff.2 fun x hx => by
    obtain ⟨i, hi, rfl⟩ := List.getElem_of_mem hx
    rw [List.length_drop] at hi
    rw [List.getElem_drop, hp _ (by omega), decide_eq_false (by omega)]; exact Bool.false_ne_true
  rw [e1, e2, e3]; simp
def inRange (a b : ByteArray) (x : Value) : Bool := !ltB (keyV x) a && ltB (keyV x) b
theorem rng_filter {l : List Value} (ho : Ord l) (a b : ByteArray) : rngF l a b = l.filter (inRange a b) := by
  obtain ⟨ia, ha, hla, a1, a2⟩ := bs_idx ho a
  obtain ⟨ib, hb, hlb, b1, b2⟩ := bs_idx ho b
  unfold rngF
  rw [ha, hb, filter_idx (i0 := ia) (i1 := max ia ib) (by omega) (by omega) fun i hi => ?_]
  · rw [Int.toNat_natCast, show (max (ia : Int) (ib : Int)).toNat = max ia ib by omega]
  · unfold inRange
    rw [← kP_get hi]
    by_cases h1 : i < ia
    · rw [a1 i h1, decide_eq_false (by omega)]; rfl
    · rw [a2 i (by omega) hi]
      by_cases h2 : i < ib
      · rw [b1 i h2, decide_eq_true (by omega)]; rfl
      · rw [b2 i (by omega) hi, decide_eq_false (by omega)]; rfl
theorem bs_mono {l : List Value} (ho : Ord l) {a b : ByteArray} (h : (ltB a b || eqB a b) = true) : bsF l a ≤ bsF l b := by
  obtain ⟨ia, ha, hla, a1, a2⟩ := bs_idx ho a
  obtain ⟨ib, hb, hlb, b1, b2⟩ := bs_idx ho b
  rw [ha, hb]
  rcases Nat.lt_or_ge ib ia with hlt | hge
  · exfalso
    have h1 := a1 ib hlt
    have h2 := b2 ib (Nat.le_refl _) (by omega)
    rw [Bool.or_eq_true] at h
    rcases h with h | h
    · rw [lt_trans h1 h] at h2; cases h2
    · rw [← eqB_iff.1 h, h1] at h2; cases h2
  · omega
theorem rng_join {l : List Value} (ho : Ord l) {a b c : ByteArray} (h1 : (ltB a b || eqB a b) = true) (h2 : (ltB b c || eqB b c) = true) : rngF l a b ++ rngF l b c = rngF l a c := by
  have m1 := bs_mono ho h1
  have m2 := bs_mono ho h2
  have r1 := bsF_range l a
  unfold rngF
  rw [show max (bsF l a) (bsF l b) = bsF l b by omega, show max (bsF l b) (bsF l c) = bsF l c by omega, show max (bsF l a) (bsF l c) = bsF l c by omega]
  have e : l.drop (bsF l b).toNat = (l.drop (bsF l a).toNat).drop ((bsF l b).toNat - (bsF l a).toNat) := by
    rw [List.drop_drop]; congr 1; omega
  rw [e, ← List.take_add]
  congr 1; omega
theorem rng_len {l : List Value} (hl : l.length ≤ 1000000) (a b : ByteArray) : (rngF l a b).length ≤ l.length := by
  unfold rngF
  rw [List.length_take, List.length_drop]; omega
/-- The next of a range. -/
theorem filter_next {l : List Value} {p : Value → Bool} {i : Nat} (hi : i < l.length) (hp : p l[i] = true) : ((l.take i).filter p).length < (l.filter p).length ∧ kP (l.filter p) ((l.take i).filter p).length = kP l i ∧ vP (l.filter p) ((l.take i).filter p).length = vP l i ∧ ((l.take (i + 1)).filter p).length = ((l.take i).filter p).length + 1 := by
  have hs : l.filter p = (l.take i).filter p ++ (l[i] :: (l.drop (i + 1)).filter p) := by
    conv => lhs; rw [← List.take_append_drop i l, List.drop_eq_getElem_cons hi]
    rw [List.filter_append, List.filter_cons, if_pos hp]
  have hlt : ((l.take i).filter p).length < (l.filter p).length := by rw [hs]; simp
  have hg : (l.filter p)[((l.take i).filter p).length]'hlt = l[i] := by
    have : (l.filter p)[((l.take i).filter p).length]? = some l[i] := by rw [hs, List.getElem?_append_right (Nat.le_refl _)]; simp
    rw [List.getElem?_eq_getElem hlt] at this
    exact Option.some.inj this
  refine ⟨hlt, by rw [kP_get hlt, kP_get hi, hg], by rw [vP_get hlt, vP_get hi, hg], ?_⟩
  rw [List.take_add_one, List.getElem?_eq_getElem hi, Option.toList_some, List.filter_append, List.length_append]
  simp [List.filter, hp]
theorem filter_skip {l : List Value} {p : Value → Bool} {i : Nat} (hi : i < l.length) (hp : p l[i] = false) : ((l.take (i + 1)).filter p).length = ((l.take i).filter p).length := by
  rw [List.take_add_one, List.getElem?_eq_getElem hi, Option.toList_some, List.filter_append, List.length_append]
  simp [List.filter, hp]
end Go.Proofs.Ytddejgkfgnokgaa
end
section
namespace Go.Proofs.Ytddejgkfgnokgaa
open Go.Abs Go
set_option maxRecDepth 100000 in
theorem within_vc (g : KvF) (n lo hi : Int) : runP std noCon 40 noL (withinP std g) 16 Try.f16 (n, lo, hi, ()) =
  ((((-9223372036854775808 : Int) ≤ (hi - lo)) ∧ ((hi - lo) ≤ (9223372036854775807 : Int))) ∧ ((((-9223372036854775808 : Int) ≤ ((hi - lo) + (1 : Int))) ∧ (((hi - lo) + (1 : Int)) ≤ (9223372036854775807 : Int))) ∧ (((0 : Int) < ((hi - lo) + (1 : Int))) ∧ ((((decide ((std.rem n ((hi - lo) + (1 : Int))) < (0 : Int))) = true) → ((((-9223372036854775808 : Int) ≤ ((std.rem n ((hi - lo) + (1 : Int))) + hi)) ∧ (((std.rem n ((hi - lo) + (1 : Int))) + hi) ≤ (9223372036854775807 : Int))) ∧ ((((-9223372036854775808 : Int) ≤ (((std.rem n ((hi - lo) + (1 : Int))) + hi) - lo)) ∧ ((((std.rem n ((hi - lo) + (1 : Int))) + hi) - lo) ≤ (9223372036854775807 : Int))) ∧ ((((-9223372036854775808 : Int) ≤ ((((std.rem n ((hi - lo) + (1 : Int))) + hi) - lo) + (1 : Int))) ∧ (((((std.rem n ((hi - lo) + (1 : Int))) + hi) - lo) + (1 : Int)) ≤ (9223372036854775807 : Int))) ∧ ((((-9223372036854775808 : Int) ≤ (lo + ((((std.rem n ((hi - lo) + (1 : Int))) + hi) - lo) + (1 : Int)))) ∧ ((lo + ((((std.rem n ((hi - lo) + (1 : Int))) + hi) - lo) + (1 : Int))) ≤ (9223372036854775807 : Int))) ∧ ([(Value.int IntKind.i64 (lo + ((((std.rem n ((hi - lo) + (1 : Int))) + hi) - lo) + (1 : Int))))] = [(Value.int IntKind.i64 (g.wi n lo hi))])))))) ∧ (((decide ((std.rem n ((hi - lo) + (1 : Int))) < (0 : Int))) = false) → ((((-9223372036854775808 : Int) ≤ (lo + (std.rem n ((hi - lo) + (1 : Int))))) ∧ ((lo + (std.rem n ((hi - lo) + (1 : Int)))) ≤ (9223372036854775807 : Int))) ∧ ([(Value.int IntKind.i64 (lo + (std.rem n ((hi - lo) + (1 : Int)))))] = [(Value.int IntKind.i64 (g.wi n lo hi))]))))))) := by kernel_rfl
def order_vc_L1 (g : KvF) (xs : List Value) (n : Int) (G : OrC → Prop) (w : OrC → Nat) (d17 : OrB) : Prop :=
  (∃ (d21 : OrC), (([(Filler.val (Value.int IntKind.i64 n)), (Filler.dl (g.pairs xs)), (Filler.dl (d21.x)), (Filler.dl (d21.y)), (Filler.dl (d21.f)), (Filler.val (Value.int IntKind.i64 (d21.i)))] = [(Filler.val (Value.int IntKind.i64 n)), (Filler.dl (g.pairs xs)), (Filler.dl (d17.x)), (Filler.dl (g.set (d17.x) (ByteArray.mk (Array.mk [(109 : UInt8)])) (ByteArray.mk (Array.mk [])))), (Filler.dl []), (Filler.val (Value.int IntKind.i64 (0 : Int)))]) ∧ ((G d21) ∧ (∀ (d22 : OrC), ((G d22) → ((((decide ((d22.i) < (32 : Int))) = true) → ((((0 : Int) < (26 : Int)) ∧ (((-9223372036854775808 : Int) ≤ (d22.i)) ∧ ((d22.i) ≤ (9223372036854775807 : Int)))) ∧ ((((-9223372036854775808 : Int) ≤ ((97 : Int) + (std.quo (d22.i) (26 : Int)))) ∧ (((97 : Int) + (std.quo (d22.i) (26 : Int))) ≤ (9223372036854775807 : Int))) ∧ (((0 : Int) < (26 : Int)) ∧ ((((-9223372036854775808 : Int) ≤ ((97 : Int) + (std.rem (d22.i) (26 : Int)))) ∧ (((97 : Int) + (std.rem (d22.i) (26 : Int))) ≤ (9223372036854775807 : Int))) ∧ ((((std.slen (ByteArray.mk (Array.mk [(107 : UInt8)]))) + (std.slen (std.sof (std.ints [(Value.int IntKind.u8 (std.wrap IntKind.u8 ((97 : Int) + (std.quo (d22.i) (26 : Int))))), (Value.int IntKind.u8 (std.wrap IntKind.u8 ((97 : Int) + (std.rem (d22.i) (26 : Int)))))])))) ≤ 9223372036854775807) ∧ (((List.length (d22.f)) ≤ 1000000) ∧ ((((g.setok (d22.f) ((ByteArray.mk (Array.mk [(107 : UInt8)])) ++ (std.sof (std.ints [(Value.int IntKind.u8 (std.wrap IntKind.u8 ((97 : Int) + (std.quo (d22.i) (26 : Int))))), (Value.int IntKind.u8 (std.wrap IntKind.u8 ((97 : Int) + (std.rem (d22.i) (26 : Int)))))]))) (ByteArray.mk (Array.mk []))) = true) → ((((decide ((d22.i) < (30 : Int))) = true) → ((((-9223372036854775808 : Int) ≤ ((d22.i) + (1 : Int))) ∧ (((d22.i) + (1 : Int)) ≤ (9223372036854775807 : Int))) ∧ (∃ (d27 : OrC), (([(Filler.val (Value.int IntKind.i64 n)), (Filler.dl (g.pairs xs)), (Filler.dl (d27.x)), (Filler.dl (d27.y)), (Filler.dl (d27.f)), (Filler.val (Value.int IntKind.i64 (d27.i)))] = [(Filler.val (Value.int IntKind.i64 n)), (Filler.dl (g.pairs xs)), (Filler.dl (d22.x)), (Filler.dl (d22.y)), (Filler.dl (g.set (d22.f) ((ByteArray.mk (Array.mk [(107 : UInt8)])) ++ (std.sof (std.ints [(Value.int IntKind.u8 (std.wrap IntKind.u8 ((97 : Int) + (std.quo (d22.i) (26 : Int))))), (Value.int IntKind.u8 (std.wrap IntKind.u8 ((97 : Int) + (std.rem (d22.i) (26 : Int)))))]))) (ByteArray.mk (Array.mk [])))), (Filler.val (Value.int IntKind.i64 ((d22.i) + (1 : Int))))]) ∧ ((Nat.le (Nat.succ (w d27)) (w d22)) ∧ (G d27)))))) ∧ (((decide ((d22.i) < (30 : Int))) = false) → ([(Value.bool false)] = [(Value.bool true)])))) ∧ (((g.setok (d22.f) ((ByteArray.mk (Array.mk [(107 : UInt8)])) ++ (std.sof (std.ints [(Value.int IntKind.u8 (std.wrap IntKind.u8 ((97 : Int) + (std.quo (d22.i) (26 : Int))))), (Value.int IntKind.u8 (std.wrap IntKind.u8 ((97 : Int) + (std.rem (d22.i) (26 : Int)))))]))) (ByteArray.mk (Array.mk []))) = false) → ((((decide ((d22.i) < (30 : Int))) = true) → ([(Value.bool false)] = [(Value.bool true)])) ∧ (((decide ((d22.i) < (30 : Int))) = false) → ((((-9223372036854775808 : Int) ≤ ((d22.i) + (1 : Int))) ∧ (((d22.i) + (1 : Int)) ≤ (9223372036854775807 : Int))) ∧ (∃ (d27 : OrC), (([(Filler.val (Value.int IntKind.i64 n)), (Filler.dl (g.pairs xs)), (Filler.dl (d27.x)), (Filler.dl (d27.y)), (Filler.dl (d27.f)), (Filler.val (Value.int IntKind.i64 (d27.i)))] = [(Filler.val (Value.int IntKind.i64 n)), (Filler.dl (g.pairs xs)), (Filler.dl (d22.x)), (Filler.dl (d22.y)), (Filler.dl (g.set (d22.f) ((ByteArray.mk (Array.mk [(107 : UInt8)])) ++ (std.sof (std.ints [(Value.int IntKind.u8 (std.wrap IntKind.u8 ((97 : Int) + (std.quo (d22.i) (26 : Int))))), (Value.int IntKind.u8 (std.wrap IntKind.u8 ((97 : Int) + (std.rem (d22.i) (26 : Int)))))]))) (ByteArray.mk (Array.mk [])))), (Filler.val (Value.int IntKind.i64 ((d22.i) + (1 : Int))))]) ∧ ((Nat.le (Nat.succ (w d27)) (w d22)) ∧ (G d27)))))))))))))))) ∧ (((decide ((d22.i) < (32 : Int))) = false) → ((((!(((List.length (d22.f)) : Int) == (30 : Int))) = true) → ([(Value.bool false)] = [(Value.bool true)])) ∧ (((!(((List.length (d22.f)) : Int) == (30 : Int))) = false) → ((((-9223372036854775808 : Int) ≤ (((List.length (d22.f)) : Int) - (1 : Int))) ∧ ((((List.length (d22.f)) : Int) - (1 : Int)) ≤ (9223372036854775807 : Int))) ∧ (((((-9223372036854775808 : Int) ≤ n) ∧ (n ≤ (9223372036854775807 : Int))) ∧ (((-1000000000000 : Int) ≤ (0 : Int)) ∧ (((0 : Int) ≤ (((List.length (d22.f)) : Int) - (1 : Int))) ∧ ((((List.length (d22.f)) : Int) - (1 : Int)) ≤ (2000000000000 : Int))))) ∧ ((((0 : Int) ≤ (g.wi n (0 : Int) (((List.length (d22.f)) : Int) - (1 : Int)))) ∧ ((g.wi n (0 : Int) (((List.length (d22.f)) : Int) - (1 : Int))) < ((List.length (d22.f)) : Int))) ∧ (((List.length (d22.f)) ≤ 1000000) ∧ ((((g.setok (d22.f) (kP (d22.f) (Int.toNat (g.wi n (0 : Int) (((List.length (d22.f)) : Int) - (1 : Int))))) (ByteArray.mk (Array.mk [(110 : UInt8), (101 : UInt8), (119 : UInt8)]))) = true) → (((List.length (d22.x)) ≤ 1000000) ∧ ((((g.same (d22.x) (g.pairs xs)) = true) → (((List.length (d22.y)) ≤ 1000000) ∧ (((List.length (g.del (d22.y) (ByteArray.mk (Array.mk [(109 : UInt8)])))) ≤ 1000000) ∧ ((((g.same (g.del (d22.y) (ByteArray.mk (Array.mk [(109 : UInt8)]))) (g.pairs xs)) = true) → (((((((List.length (g.set (d22.f) (kP (d22.f) (Int.toNat (g.wi n (0 : Int) (((List.length (d22.f)) : Int) - (1 : Int))))) (ByteArray.mk (Array.mk [(110 : UInt8), (101 : UInt8), (119 : UInt8)])))) : Nat) : Int) == ((List.length (d22.f)) : Int)) = true) → (((List.length (d22.f)) ≤ 1000000) ∧ ((((g.right (d22.f)) = true) → ([(Value.bool true)] = [(Value.bool true)])) ∧ (((g.right (d22.f)) = false) → ([(Value.bool false)] = [(Value.bool true)]))))) ∧ ((((((List.length (g.set (d22.f) (kP (d22.f) (Int.toNat (g.wi n (0 : Int) (((List.length (d22.f)) : Int) - (1 : Int))))) (ByteArray.mk (Array.mk [(110 : UInt8), (101 : UInt8), (119 : UInt8)])))) : Nat) : Int) == ((List.length (d22.f)) : Int)) = false) → ([(Value.bool false)] = [(Value.bool true)])))) ∧ (((g.same (g.del (d22.y) (ByteArray.mk (Array.mk [(109 : UInt8)]))) (g.pairs xs)) = false) → ([(Value.bool false)] = [(Value.bool true)])))))) ∧ (((g.same (d22.x) (g.pairs xs)) = false) → ([(Value.bool false)] = [(Value.bool true)]))))) ∧ (((g.setok (d22.f) (kP (d22.f) (Int.toNat (g.wi n (0 : Int) (((List.length (d22.f)) : Int) - (1 : Int))))) (ByteArray.mk (Array.mk [(110 : UInt8), (101 : UInt8), (119 : UInt8)]))) = false) → (((List.length (d22.x)) ≤ 1000000) ∧ ((((g.same (d22.x) (g.pairs xs)) = true) → (((List.length (d22.y)) ≤ 1000000) ∧ (((List.length (g.del (d22.y) (ByteArray.mk (Array.mk [(109 : UInt8)])))) ≤ 1000000) ∧ ((((g.same (g.del (d22.y) (ByteArray.mk (Array.mk [(109 : UInt8)]))) (g.pairs xs)) = true) → ([(Value.bool false)] = [(Value.bool true)])) ∧ (((g.same (g.del (d22.y) (ByteArray.mk (Array.mk [(109 : UInt8)]))) (g.pairs xs)) = false) → ([(Value.bool false)] = [(Value.bool true)])))))) ∧ (((g.same (d22.x) (g.pairs xs)) = false) → ([(Value.bool false)] = [(Value.bool true)])))))))))))))))))))
def order_vc_L2 (g : KvF) (xs : List Value) (n : Int) (J : OrB → Prop) (q : OrB → Nat) (G : OrC → Prop) (w : OrC → Nat) (d13 : OrA) : Prop :=
  (∃ (d16 : OrB), (([(Filler.val (Value.int IntKind.i64 n)), (Filler.dl (g.pairs xs)), (Filler.dl (d16.x)), (Filler.dl (d16.tu)), (Filler.val (Value.int IntKind.i64 (d16.n))), (Filler.val (Value.int IntKind.i64 (d16.i)))] = [(Filler.val (Value.int IntKind.i64 n)), (Filler.dl (g.pairs xs)), (Filler.dl []), (Filler.dl (d13.tu)), (Filler.val (Value.int IntKind.i64 ((List.length (d13.tu)) : Int))), (Filler.val (Value.int IntKind.i64 (0 : Int)))]) ∧ ((J d16) ∧ (∀ (d17 : OrB), ((J d17) → ((((decide ((d17.i) < (d17.n))) = true) → ((((0 : Int) ≤ (d17.i)) ∧ ((d17.i) < ((List.length (d17.tu)) : Int))) ∧ (((List.length (d17.x)) ≤ 1000000) ∧ ((((g.setok (d17.x) (kP (d17.tu) (Int.toNat (d17.i))) (ByteArray.mk (Array.mk [(110 : UInt8), (111 : UInt8)]))) = true) → (((List.length (g.set (d17.x) (kP (d17.tu) (Int.toNat (d17.i))) (ByteArray.mk (Array.mk [(110 : UInt8), (111 : UInt8)])))) ≤ 1000000) ∧ ((((g.setok (g.set (d17.x) (kP (d17.tu) (Int.toNat (d17.i))) (ByteArray.mk (Array.mk [(110 : UInt8), (111 : UInt8)]))) (kP (d17.tu) (Int.toNat (d17.i))) (vP (d17.tu) (Int.toNat (d17.i)))) = true) → ((((-9223372036854775808 : Int) ≤ ((d17.i) + (1 : Int))) ∧ (((d17.i) + (1 : Int)) ≤ (9223372036854775807 : Int))) ∧ (∃ (d22 : OrB), (([(Filler.val (Value.int IntKind.i64 n)), (Filler.dl (g.pairs xs)), (Filler.dl (d22.x)), (Filler.dl (d22.tu)), (Filler.val (Value.int IntKind.i64 (d22.n))), (Filler.val (Value.int IntKind.i64 (d22.i)))] = [(Filler.val (Value.int IntKind.i64 n)), (Filler.dl (g.pairs xs)), (Filler.dl (g.set (g.set (d17.x) (kP (d17.tu) (Int.toNat (d17.i))) (ByteArray.mk (Array.mk [(110 : UInt8), (111 : UInt8)]))) (kP (d17.tu) (Int.toNat (d17.i))) (vP (d17.tu) (Int.toNat (d17.i))))), (Filler.dl (d17.tu)), (Filler.val (Value.int IntKind.i64 (d17.n))), (Filler.val (Value.int IntKind.i64 ((d17.i) + (1 : Int))))]) ∧ ((Nat.le (Nat.succ (q d22)) (q d17)) ∧ (J d22)))))) ∧ (((g.setok (g.set (d17.x) (kP (d17.tu) (Int.toNat (d17.i))) (ByteArray.mk (Array.mk [(110 : UInt8), (111 : UInt8)]))) (kP (d17.tu) (Int.toNat (d17.i))) (vP (d17.tu) (Int.toNat (d17.i)))) = false) → ((((-9223372036854775808 : Int) ≤ ((d17.i) + (1 : Int))) ∧ (((d17.i) + (1 : Int)) ≤ (9223372036854775807 : Int))) ∧ (∃ (d22 : OrB), (([(Filler.val (Value.int IntKind.i64 n)), (Filler.dl (g.pairs xs)), (Filler.dl (d22.x)), (Filler.dl (d22.tu)), (Filler.val (Value.int IntKind.i64 (d22.n))), (Filler.val (Value.int IntKind.i64 (d22.i)))] = [(Filler.val (Value.int IntKind.i64 n)), (Filler.dl (g.pairs xs)), (Filler.dl (g.set (g.set (d17.x) (kP (d17.tu) (Int.toNat (d17.i))) (ByteArray.mk (Array.mk [(110 : UInt8), (111 : UInt8)]))) (kP (d17.tu) (Int.toNat (d17.i))) (vP (d17.tu) (Int.toNat (d17.i))))), (Filler.dl (d17.tu)), (Filler.val (Value.int IntKind.i64 (d17.n))), (Filler.val (Value.int IntKind.i64 ((d17.i) + (1 : Int))))]) ∧ ((Nat.le (Nat.succ (q d22)) (q d17)) ∧ (J d22))))))))) ∧ (((g.setok (d17.x) (kP (d17.tu) (Int.toNat (d17.i))) (ByteArray.mk (Array.mk [(110 : UInt8), (111 : UInt8)]))) = false) → (((List.length (g.set (d17.x) (kP (d17.tu) (Int.toNat (d17.i))) (ByteArray.mk (Array.mk [(110 : UInt8), (111 : UInt8)])))) ≤ 1000000) ∧ ((((g.setok (g.set (d17.x) (kP (d17.tu) (Int.toNat (d17.i))) (ByteArray.mk (Array.mk [(110 : UInt8), (111 : UInt8)]))) (kP (d17.tu) (Int.toNat (d17.i))) (vP (d17.tu) (Int.toNat (d17.i)))) = true) → ((((-9223372036854775808 : Int) ≤ ((d17.i) + (1 : Int))) ∧ (((d17.i) + (1 : Int)) ≤ (9223372036854775807 : Int))) ∧ (∃ (d22 : OrB), (([(Filler.val (Value.int IntKind.i64 n)), (Filler.dl (g.pairs xs)), (Filler.dl (d22.x)), (Filler.dl (d22.tu)), (Filler.val (Value.int IntKind.i64 (d22.n))), (Filler.val (Value.int IntKind.i64 (d22.i)))] = [(Filler.val (Value.int IntKind.i64 n)), (Filler.dl (g.pairs xs)), (Filler.dl (g.set (g.set (d17.x) (kP (d17.tu) (Int.toNat (d17.i))) (ByteArray.mk (Array.mk [(110 : UInt8), (111 : UInt8)]))) (kP (d17.tu) (Int.toNat (d17.i))) (vP (d17.tu) (Int.toNat (d17.i))))), (Filler.dl (d17.tu)), (Filler.val (Value.int IntKind.i64 (d17.n))), (Filler.val (Value.int IntKind.i64 ((d17.i) + (1 : Int))))]) ∧ ((Nat.le (Nat.succ (q d22)) (q d17)) ∧ (J d22)))))) ∧ (((g.setok (g.set (d17.x) (kP (d17.tu) (Int.toNat (d17.i))) (ByteArray.mk (Array.mk [(110 : UInt8), (111 : UInt8)]))) (kP (d17.tu) (Int.toNat (d17.i))) (vP (d17.tu) (Int.toNat (d17.i)))) = false) → ((((-9223372036854775808 : Int) ≤ ((d17.i) + (1 : Int))) ∧ (((d17.i) + (1 : Int)) ≤ (9223372036854775807 : Int))) ∧ (∃ (d22 : OrB), (([(Filler.val (Value.int IntKind.i64 n)), (Filler.dl (g.pairs xs)), (Filler.dl (d22.x)), (Filler.dl (d22.tu)), (Filler.val (Value.int IntKind.i64 (d22.n))), (Filler.val (Value.int IntKind.i64 (d22.i)))] = [(Filler.val (Value.int IntKind.i64 n)), (Filler.dl (g.pairs xs)), (Filler.dl (g.set (g.set (d17.x) (kP (d17.tu) (Int.toNat (d17.i))) (ByteArray.mk (Array.mk [(110 : UInt8), (111 : UInt8)]))) (kP (d17.tu) (Int.toNat (d17.i))) (vP (d17.tu) (Int.toNat (d17.i))))), (Filler.dl (d17.tu)), (Filler.val (Value.int IntKind.i64 (d17.n))), (Filler.val (Value.int IntKind.i64 ((d17.i) + (1 : Int))))]) ∧ ((Nat.le (Nat.succ (q d22)) (q d17)) ∧ (J d22))))))))))))) ∧ (((decide ((d17.i) < (d17.n))) = false) → (((List.length (d17.x)) ≤ 1000000) ∧ ((((g.setok (d17.x) (ByteArray.mk (Array.mk [(109 : UInt8)])) (ByteArray.mk (Array.mk []))) = true) → (order_vc_L1 g xs n G w d17)) ∧ (((g.setok (d17.x) (ByteArray.mk (Array.mk [(109 : UInt8)])) (ByteArray.mk (Array.mk []))) = false) → (order_vc_L1 g xs n G w d17)))))))))))
def order_vc_L3 (g : KvF) (xs : List Value) (os : List Value) (n : Int) (I : OrA → Prop) (m : OrA → Nat) (J : OrB → Prop) (q : OrB → Nat) (G : OrC → Prop) (w : OrC → Nat) : Prop :=
  (∃ (d12 : OrA), (([(Filler.dl os), (Filler.val (Value.int IntKind.i64 n)), (Filler.dl (g.pairs xs)), (Filler.dl (d12.tu)), (Filler.val (Value.int IntKind.i64 (d12.i)))] = [(Filler.dl os), (Filler.val (Value.int IntKind.i64 n)), (Filler.dl (g.pairs xs)), (Filler.dl (g.pairs xs)), (Filler.val (Value.int IntKind.i64 (0 : Int)))]) ∧ ((I d12) ∧ (∀ (d13 : OrA), ((I d13) → ((((decide ((d13.i) < ((List.length os) : Int))) = true) → ((((decide ((1 : Int) < ((List.length (d13.tu)) : Int))) = true) → ((((0 : Int) ≤ (d13.i)) ∧ ((d13.i) < ((List.length os) : Int))) ∧ ((((-9223372036854775808 : Int) ≤ (((List.length (d13.tu)) : Int) - (1 : Int))) ∧ ((((List.length (d13.tu)) : Int) - (1 : Int)) ≤ (9223372036854775807 : Int))) ∧ (((((-9223372036854775808 : Int) ≤ (eI os (Int.toNat (d13.i)))) ∧ ((eI os (Int.toNat (d13.i))) ≤ (9223372036854775807 : Int))) ∧ (((-1000000000000 : Int) ≤ (0 : Int)) ∧ (((0 : Int) ≤ (((List.length (d13.tu)) : Int) - (1 : Int))) ∧ ((((List.length (d13.tu)) : Int) - (1 : Int)) ≤ (2000000000000 : Int))))) ∧ ((((0 : Int) ≤ (g.wi (eI os (Int.toNat (d13.i))) (0 : Int) (((List.length (d13.tu)) : Int) - (1 : Int)))) ∧ ((g.wi (eI os (Int.toNat (d13.i))) (0 : Int) (((List.length (d13.tu)) : Int) - (1 : Int))) < ((List.length (d13.tu)) : Int))) ∧ ((((List.length [(Value.agg (Array.mk [(Value.string (kP (d13.tu) (Int.toNat (g.wi (eI os (Int.toNat (d13.i))) (0 : Int) (((List.length (d13.tu)) : Int) - (1 : Int)))))), (Value.string (vP (d13.tu) (Int.toNat (g.wi (eI os (Int.toNat (d13.i))) (0 : Int) (((List.length (d13.tu)) : Int) - (1 : Int))))))]))]) * 32) ≤ 140737488355328) ∧ (((((0 : Int) ≤ (g.wi (eI os (Int.toNat (d13.i))) (0 : Int) (((List.length (d13.tu)) : Int) - (1 : Int)))) ∧ ((g.wi (eI os (Int.toNat (d13.i))) (0 : Int) (((List.length (d13.tu)) : Int) - (1 : Int))) ≤ ((List.length (d13.tu)) : Int))) ∧ True) ∧ ((((List.length ([(Value.agg (Array.mk [(Value.string (kP (d13.tu) (Int.toNat (g.wi (eI os (Int.toNat (d13.i))) (0 : Int) (((List.length (d13.tu)) : Int) - (1 : Int)))))), (Value.string (vP (d13.tu) (Int.toNat (g.wi (eI os (Int.toNat (d13.i))) (0 : Int) (((List.length (d13.tu)) : Int) - (1 : Int))))))]))] ++ (List.take ((Int.toNat (g.wi (eI os (Int.toNat (d13.i))) (0 : Int) (((List.length (d13.tu)) : Int) - (1 : Int)))) - 0) (List.drop 0 (d13.tu))))) * 32) ≤ 140737488355328) ∧ ((((-9223372036854775808 : Int) ≤ ((g.wi (eI os (Int.toNat (d13.i))) (0 : Int) (((List.length (d13.tu)) : Int) - (1 : Int))) + (1 : Int))) ∧ (((g.wi (eI os (Int.toNat (d13.i))) (0 : Int) (((List.length (d13.tu)) : Int) - (1 : Int))) + (1 : Int)) ≤ (9223372036854775807 : Int))) ∧ ((True ∧ (((0 : Int) ≤ ((g.wi (eI os (Int.toNat (d13.i))) (0 : Int) (((List.length (d13.tu)) : Int) - (1 : Int))) + (1 : Int))) ∧ (((g.wi (eI os (Int.toNat (d13.i))) (0 : Int) (((List.length (d13.tu)) : Int) - (1 : Int))) + (1 : Int)) ≤ ((List.length (d13.tu)) : Int)))) ∧ ((((List.length (([(Value.agg (Array.mk [(Value.string (kP (d13.tu) (Int.toNat (g.wi (eI os (Int.toNat (d13.i))) (0 : Int) (((List.length (d13.tu)) : Int) - (1 : Int)))))), (Value.string (vP (d13.tu) (Int.toNat (g.wi (eI os (Int.toNat (d13.i))) (0 : Int) (((List.length (d13.tu)) : Int) - (1 : Int))))))]))] ++ (List.take ((Int.toNat (g.wi (eI os (Int.toNat (d13.i))) (0 : Int) (((List.length (d13.tu)) : Int) - (1 : Int)))) - 0) (List.drop 0 (d13.tu)))) ++ (List.take ((List.length (d13.tu)) - (Int.toNat ((g.wi (eI os (Int.toNat (d13.i))) (0 : Int) (((List.length (d13.tu)) : Int) - (1 : Int))) + (1 : Int)))) (List.drop (Int.toNat ((g.wi (eI os (Int.toNat (d13.i))) (0 : Int) (((List.length (d13.tu)) : Int) - (1 : Int))) + (1 : Int))) (d13.tu))))) * 32) ≤ 140737488355328) ∧ ((((-9223372036854775808 : Int) ≤ ((d13.i) + (1 : Int))) ∧ (((d13.i) + (1 : Int)) ≤ (9223372036854775807 : Int))) ∧ (∃ (d17 : OrA), (([(Filler.dl os), (Filler.val (Value.int IntKind.i64 n)), (Filler.dl (g.pairs xs)), (Filler.dl (d17.tu)), (Filler.val (Value.int IntKind.i64 (d17.i)))] = [(Filler.dl os), (Filler.val (Value.int IntKind.i64 n)), (Filler.dl (g.pairs xs)), (Filler.dl (([(Value.agg (Array.mk [(Value.string (kP (d13.tu) (Int.toNat (g.wi (eI os (Int.toNat (d13.i))) (0 : Int) (((List.length (d13.tu)) : Int) - (1 : Int)))))), (Value.string (vP (d13.tu) (Int.toNat (g.wi (eI os (Int.toNat (d13.i))) (0 : Int) (((List.length (d13.tu)) : Int) - (1 : Int))))))]))] ++ (List.take ((Int.toNat (g.wi (eI os (Int.toNat (d13.i))) (0 : Int) (((List.length (d13.tu)) : Int) - (1 : Int)))) - 0) (List.drop 0 (d13.tu)))) ++ (List.take ((List.length (d13.tu)) - (Int.toNat ((g.wi (eI os (Int.toNat (d13.i))) (0 : Int) (((List.length (d13.tu)) : Int) - (1 : Int))) + (1 : Int)))) (List.drop (Int.toNat ((g.wi (eI os (Int.toNat (d13.i))) (0 : Int) (((List.length (d13.tu)) : Int) - (1 : Int))) + (1 : Int))) (d13.tu))))), (Filler.val (Value.int IntKind.i64 ((d13.i) + (1 : Int))))]) ∧ ((Nat.le (Nat.succ (m d17)) (m d13)) ∧ (I d17)))))))))))))))) ∧ (((decide ((1 : Int) < ((List.length (d13.tu)) : Int))) = false) → (order_vc_L2 g xs n J q G w d13)))) ∧ (((decide ((d13.i) < ((List.length os) : Int))) = false) → (order_vc_L2 g xs n J q G w d13))))))))
end Go.Proofs.Ytddejgkfgnokgaa
end
section
namespace Go.Proofs.Ytddejgkfgnokgaa
open Go.RowKit Go.Abs Go
/-- Ordered rows of the same pairs are the same. -/
theorem ord_ext : ∀ {l m : List Value}, Ord l → Ord m → (∀ x, x ∈ l ↔ x ∈ m) → l = m
  | [], [], _, _, _ => rfl
  | [], b :: m, _, _, h => by have := (h b).2 (List.mem_cons_self ..); cases this
  | a :: l, [], _, _, h => by have := (h a).1 (List.mem_cons_self ..); cases this
  | a :: l, b :: m, h1, h2, h => by
    obtain ⟨a1, o1⟩ := List.pairwise_cons.1 h1
    obtain ⟨a2, o2⟩ := List.pairwise_cons.1 h2
    have e : a = b := by
      rcases List.mem_cons.1 ((h a).1 (List.mem_cons_self ..)) with e | ha
      · exact e
      · rcases List.mem_cons.1 ((h b).2 (List.mem_cons_self ..)) with e | hb
        · exact e.symm
        · have := lt_trans (a1 b hb) (a2 a ha)
          rw [lt_irrefl] at this; cases this
    subst e
    rw [ord_ext o1 o2 fun x => ⟨fun hx => ?_, fun hx => ?_⟩]
    · rcases List.mem_cons.1 ((h x).1 (List.mem_cons_of_mem _ hx)) with e | hm
      · subst e; have := a1 x hx; rw [lt_irrefl] at this; cases this
      · exact hm
    · rcases List.mem_cons.1 ((h x).2 (List.mem_cons_of_mem _ hx)) with e | hm
      · subst e; have := a2 x hx; rw [lt_irrefl] at this; cases this
      · exact hm
/-- What is in a row that was set. -/
theorem rset_mem {l : List Value} (ho : Ord l) (k v : ByteArray) : (∀ y, y ∈ rsetF l k v ↔ y = prV k v ∨ y ∈ l ∧ keyV y ≠ k) ∧
    (((∃ x ∈ l, keyV x = k) ∧ (rsetF l k v).length = l.length ∧ fdF l k = true) ∨ ((∀ x ∈ l, keyV x ≠ k) ∧ (rsetF l k v).length = l.length + 1 ∧ fdF l k = false)) := by
  obtain ⟨r, hr, hle, h1, h2, h3⟩ := split_at k ho
  rw [fd_eq k ho]
  unfold rsetF putF
  rw [hr, Int.toNat_natCast]
  rw [hr, Int.toNat_natCast] at h2 h3
  have ne1 : ∀ x ∈ l.take r, keyV x ≠ k := fun x hx e => by have := h1 x hx; rw [e, lt_irrefl] at this; cases this
  have hl : ∀ y, y ∈ l ↔ y ∈ l.take r ∨ y ∈ l.drop r := fun y => by
    have := List.take_append_drop r l
    rw [← List.mem_append, this]
  cases hc : (decide ((r : Int) < (l.length : Int)) && eqB (kP l r) k) with
  | true =>
    obtain ⟨hlt, h4, h5⟩ := h3 hc
    have ne2 : ∀ x ∈ l.drop (r + 1), keyV x ≠ k := fun x hx e => by have := h5 x hx; rw [e, lt_irrefl] at this; cases this
    have hd : l.drop r = l[r] :: l.drop (r + 1) := List.drop_eq_getElem_cons hlt
    rw [if_pos rfl]
    refine ⟨fun y => ?_, .inl ⟨⟨l[r], List.getElem_mem hlt, h4⟩, ?_, rfl⟩⟩
    · rw [hl y, hd]
      simp only [List.mem_append, List.mem_cons, List.not_mem_nil, or_false]
      constructor
      · rintro ((h | h) | h)
        · exact .inr ⟨.inl h, ne1 y h⟩
        · exact .inl h
        · exact .inr ⟨.inr (.inr h), ne2 y h⟩
      · rintro (h | ⟨h | h | h, hk⟩)
        · exact .inl (.inr h)
        · exact .inl (.inl h)
        · rw [h] at hk; exact absurd h4 hk
        · exact .inr h
    · simp only [List.length_append, List.length_take, List.length_drop, List.length_cons, List.length_nil]; omega
  | false =>
    have ne2 : ∀ x ∈ l.drop r, keyV x ≠ k := fun x hx e => by have := h2 hc x hx; rw [e, lt_irrefl] at this; cases this
    rw [if_neg Bool.false_ne_true]
    refine ⟨fun y => ?_, .inr ⟨fun x hx => ?_, ?_, rfl⟩⟩
    · rw [hl y]
      simp only [List.mem_append, List.mem_cons, List.not_mem_nil, or_false]
      constructor
      · rintro ((h | h) | h)
        · exact .inr ⟨.inl h, ne1 y h⟩
        · exact .inl h
        · exact .inr ⟨.inr h, ne2 y h⟩
      · rintro (h | ⟨h | h, hk⟩)
        · exact .inl (.inr h)
        · exact .inl (.inl h)
        · exact .inr h
    · rcases (hl x).1 hx with h | h
      · exact ne1 x h
      · exact ne2 x h
    · simp only [List.length_append, List.length_take, List.length_drop, List.length_cons, List.length_nil]; omega
theorem set_mem {l : List Value} (h : RightL l) {k v : ByteArray} (hm : mayF k v = true) (hroom : l.length < 30 ∨ ∃ x ∈ l, keyV x = k) : RightL (setF l k v) ∧ (∀ y, y ∈ setF l k v ↔ y = prV k v ∨ y ∈ l ∧ keyV y ≠ k) ∧
    (((∃ x ∈ l, keyV x = k) ∧ (setF l k v).length = l.length) ∨ ((∀ x ∈ l, keyV x ≠ k) ∧ (setF l k v).length = l.length + 1)) := by
  have ho := ((right_iff l).1 h.1).2.1
  obtain ⟨h1, h2⟩ := rset_mem ho k v
  have hok : setokF l k v = true := by
    unfold setokF
    rw [hm, Bool.true_and, Bool.or_eq_true]
    rcases hroom with hr | ⟨x, hx, he⟩
    · right; rw [decide_eq_true_eq]; omega
    · left
      rcases h2 with ⟨_, _, h3⟩ | ⟨h3, _⟩
      · exact h3
      · exact absurd he (h3 x hx)
  obtain ⟨e, hr⟩ := set_rset h hok
  rw [e]
  exact ⟨hr, h1, h2.imp (fun h => ⟨h.1, h.2.1⟩) fun h => ⟨h.1, h.2.1⟩⟩
def mB : ByteArray := ⟨#[109]⟩
def noW : ByteArray := ⟨#[110, 111]⟩
def newW : ByteArray := ⟨#[110, 101, 119]⟩
/-- The pairs of a step of KvOrder's second loop. -/
theorem two_sets {l : List Value} (h : RightL l) {k v : ByteArray} (hm : mayF k v = true) (hroom : l.length < 30) (hn : ∀ x ∈ l, keyV x ≠ k) :
    RightL (setF (setF l k noW) k v) ∧ (setF l k noW).length ≤ 30 ∧ (setF (setF l k noW) k v).length = l.length + 1 ∧ ∀ y, y ∈ setF (setF l k noW) k v ↔ y ∈ l ∨ y = prV k v := by
  have hm1 : mayF k noW = true := by
    unfold mayF at hm ⊢
    simp only [Bool.and_eq_true] at hm ⊢
    exact ⟨hm.1, hm.2.1, rfl⟩
  obtain ⟨r1, m1, l1⟩ := set_mem h hm1 (.inl hroom)
  have hlen1 : (setF l k noW).length = l.length + 1 := by
    rcases l1 with ⟨⟨x, hx, he⟩, _⟩ | ⟨_, h2⟩
    · exact absurd he (hn x hx)
    · exact h2
  have hin : prV k noW ∈ setF l k noW := (m1 _).2 (.inl rfl)
  obtain ⟨r2, m2, l2⟩ := set_mem r1 hm (.inr ⟨_, hin, rfl⟩)
  refine ⟨r2, by omega, ?_, fun y => ?_⟩
  · rcases l2 with ⟨_, h2⟩ | ⟨h2, _⟩
    · omega
    · exact absurd rfl (h2 _ hin)
  · rw [m2 y, m1 y]
    constructor
    · rintro (h | ⟨h | h, hk⟩)
      · exact .inr h
      · rw [h] at hk; exact absurd rfl hk
      · exact .inl h.1
    · rintro (h | h)
      · exact .inr ⟨.inr ⟨h, hn y h⟩, hn y h⟩
      · exact .inl h
/-- Set and taken out: as if it had never been. -/
theorem set_del {l : List Value} (h : RightL l) (hroom : l.length < 30) (hn : ∀ x ∈ l, keyV x ≠ mB) : (setF l mB noB).length ≤ 30 ∧ (dropF (setF l mB noB) mB).length ≤ 30 ∧ dropF (setF l mB noB) mB = l := by
  obtain ⟨r1, m1, _⟩ := set_mem (k := mB) (v := noB) h rfl (.inl hroom)
  have ho := ((right_iff _).1 r1.1).2
  have e : dropF (setF l mB noB) mB = l := by
    rw [drop_rdel mB r1.2 ho.1, rdel_eq mB r1.2]
    refine ord_ext (ho.1.filter _) ((right_iff l).1 h.1).2.1 fun x => ?_
    rw [List.mem_filter, m1 x]
    constructor
    · rintro ⟨h1 | h1, h2⟩
      · rw [h1] at h2; cases h2
      · exact h1.1
    · intro hx
      refine ⟨.inr ⟨hx, hn x hx⟩, ?_⟩
      cases c : eqB (keyV x) mB with
      | false => rfl
      | true => exact absurd (eqB_iff.1 c) (hn x hx)
  exact ⟨ho.2, by rw [e]; omega, e⟩
/-- Thirty keys, and no more. -/
def keyN (i : Int) : ByteArray := ⟨#[107]⟩ ++ std.sof (std.ints [.int .u8 (std.wrap .u8 (97 + std.quo i 26)), .int .u8 (std.wrap .u8 (97 + std.rem i 26))])
def fullL : Nat → List Value
  | 0 => []
  | i + 1 => setF (fullL i) (keyN i) noB
theorem full_ok : ∀ i, i < 32 → setokF (fullL i) (keyN i) noB = decide (i < 30) ∧ (fullL i).length ≤ 30 ∧ std.slen (std.sof (std.ints [Value.int .u8 (std.wrap .u8 (97 + std.quo i 26)), Value.int .u8 (std.wrap .u8 (97 + std.rem i 26))])) ≤ 100 := by decide +kernel
theorem full_len : (fullL 32).length = 30 ∧ rightF mayF (fullL 32) = true := by decide +kernel
theorem full_new : ∀ k, k < 30 → setokF (fullL 32) (kP (fullL 32) k) newW = true ∧ (setF (fullL 32) (kP (fullL 32) k) newW).length = 30 := by decide +kernel
theorem pairs_keys (xs : List Value) : (pairsF xs).length ≤ 12 ∧ ∀ x ∈ pairsF xs, keyV x ≠ mB := by
  refine ⟨outL_len _ 12, fun x hx => ?_⟩
  obtain ⟨j, s, h1, rfl, _⟩ := out_mem (es_vals xs _) hx
  have : ∀ j, j < 12 → eqB (eS keysV j) mB = false := by decide +kernel
  intro e
  have h2 := this j h1
  rw [show eS keysV j = mB from e, eqB_iff.2 rfl] at h2
  cases h2
/-- A row turned. -/
theorem turn_perm {l : List Value} (hw : Wf l) {k : Nat} (hk : k < l.length) : (([prV (kP l k) (vP l k)] ++ List.take (k - 0) (List.drop 0 l)) ++ List.take (l.length - (k + 1)) (List.drop (k + 1) l)).Perm l := by
  have e : prV (kP l k) (vP l k) = l[k] := by rw [kP_get hk, vP_get hk]; exact (hw _ (List.getElem_mem hk)).symm
  rw [e, Nat.sub_zero, List.drop_zero, take_rest]
  have h2 : l = l.take k ++ l[k] :: l.drop (k + 1) := by
    rw [← List.drop_eq_getElem_cons hk, List.take_append_drop]
  conv => rhs; rw [h2]
  exact (List.perm_middle (a := l[k]) (l₁ := l.take k) (l₂ := l.drop (k + 1))).symm
end Go.Proofs.Ytddejgkfgnokgaa
end
section
namespace Go.Proofs.Ytddejgkfgnokgaa
open Go.RowKit Go.Abs Go
set_option maxRecDepth 100000
theorem wi_run (n lo hi : Int) (_hn : -9223372036854775808 ≤ n ∧ n ≤ 9223372036854775807) (h1 : -1000000000000 ≤ lo) (h2 : lo ≤ hi) (h3 : hi ≤ 2000000000000) : runP std noCon 40 noL (withinP std kvF) 16 Try.f16 (n, lo, hi, ()) := by
  rw [within_vc]
  have hm : std.rem n ((hi - lo) + 1) = n.tmod (hi - lo + 1) := rfl
  rw [hm]
  have b1 := Int.emod_nonneg n (show hi - lo + 1 ≠ 0 by omega)
  have b2 := Int.emod_lt_of_pos n (show 0 < hi - lo + 1 by omega)
  have key : (0 ≤ n.tmod (hi - lo + 1) ∧ n.tmod (hi - lo + 1) = n % (hi - lo + 1)) ∨ (n.tmod (hi - lo + 1) < 0 ∧ n.tmod (hi - lo + 1) + (hi - lo + 1) = n % (hi - lo + 1)) := by
    have := Int.tmod_eq_emod (a := n) (b := hi - lo + 1)
    split at this <;> rename_i c
    · left; omega
    · by_cases z : n % (hi - lo + 1) = 0
      · exfalso
        exact c (.inr (Int.dvd_of_emod_eq_zero z))
      · right; omega
  generalize n.tmod (hi - lo + 1) = r at key ⊢
  have hw : kvF.wi n lo hi = lo + n % (hi - lo + 1) := rfl
  rw [hw]
  generalize n % (hi - lo + 1) = u at key b1 b2 ⊢
  refine ⟨by omega, by omega, by omega, fun h => ⟨by have := of_decide_eq_true h; omega, by have := of_decide_eq_true h; omega, by have := of_decide_eq_true h; omega, by have := of_decide_eq_true h; omega, ?_⟩, fun h => ⟨by have := of_decide_eq_false h; omega, ?_⟩⟩
  · have := of_decide_eq_true h
    rw [show lo + (r + hi - lo + 1) = lo + u by omega]
  · have := of_decide_eq_false h
    rw [show r = u by omega]
theorem wi_ok : PFOk Try.prog 16 (withinP std kvF) :=
  pf_ok (LS := fun _ => noL) Try.progOk (noCon_ok _) (inCallF_ok 60) (withinP std kvF) Try.func16 (show _ = some (bodyS Try.prog 16) by kernel_rfl) fun d hd => wi_run d.1 d.2.1 d.2.2.1 (inI_std hd.1) hd.2.1 hd.2.2.1 hd.2.2.2
theorem wi_in2 {n lo hi : Int} (h : lo ≤ hi) : lo ≤ kvF.wi n lo hi ∧ kvF.wi n lo hi ≤ hi := by
  have b1 := Int.emod_nonneg n (show hi - lo + 1 ≠ 0 by omega)
  have b2 := Int.emod_lt_of_pos n (show 0 < hi - lo + 1 by omega)
  show lo ≤ lo + n % (hi - lo + 1) ∧ lo + n % (hi - lo + 1) ≤ hi
  omega
def inR (n : Int) : Prop := -9223372036854775808 ≤ n ∧ n ≤ 9223372036854775807
theorem sl_ints {l : List Value} (hl : ∀ x ∈ l, RawOk zI x) : IntsOk l := fun i hi => by
  obtain ⟨m, e, hw⟩ := ints_ok hl i zI hi
  unfold eI
  rw [e]; exact i64_range hw
end Go.Proofs.Ytddejgkfgnokgaa
end
section
namespace Go.Proofs.Ytddejgkfgnokgaa
open Go.RowKit Go.Abs Go
set_option maxRecDepth 100000
/-- What a call comes to: its number, its error, what is pending, the shares, the users. -/
structure Mr where
  n : Int
  e : Int
  p : Int
  a : Int
  m : Ents
def BIG : Int := 1073741824
noncomputable def hasR (es : Ents) (us : BS) : Int := std.dint (std.mget (Value.string (ByteArray.mk (Array.mk []))) (Value.int IntKind.i64 (0 : Int)) es (Value.string us))
def badR (us : BS) (n : Int) : Prop := (std.slen us : Int) < 1 ∨ 16 < (std.slen us : Int) ∨ n < 1 ∨ 1073741824 < n
noncomputable instance (us : BS) (n : Int) : Decidable (badR us n) := by unfold badR; infer_instance
noncomputable def setR (es : Ents) (us : BS) (v : Int) : Ents := std.mput (Value.string (ByteArray.mk (Array.mk []))) es (Value.string us) (Value.int IntKind.i64 v)
noncomputable def qR (n s p a : Int) : Int := if 0 < a then std.quo (n * a) (s + p) else n
noncomputable def mintF (us : BS) (n s p a : Int) (h : Bool) (es : Ents) : Mr :=
  if badR us n then ⟨0, 1, p, a, es⟩ else if h = true then ⟨0, 10, p, a, es⟩ else if 0 < a ∧ s + p = 0 then ⟨0, 10, p, a, es⟩ else
  if qR n s p a < 1 ∨ 1073741824 < a + qR n s p a ∨ 1073741824 < s + p + n then ⟨0, 11, p, a, es⟩ else
  ⟨qR n s p a, 0, p + n, a + qR n s p a, setR es us (hasR es us + qR n s p a)⟩
noncomputable def redF (us : BS) (n s p a : Int) (h : Bool) (es : Ents) : Mr :=
  if badR us n then ⟨0, 1, p, a, es⟩ else if h = true then ⟨0, 10, p, a, es⟩ else if hasR es us = 0 then ⟨0, 3, p, a, es⟩ else if hasR es us < n then ⟨0, 11, p, a, es⟩ else
  if p < std.quo (n * (s + p)) a then ⟨0, 11, p, a, es⟩ else
  ⟨std.quo (n * (s + p)) a, 0, p - std.quo (n * (s + p)) a, a - n, if n = hasR es us then std.mdel (Value.string (ByteArray.mk (Array.mk []))) (setR es us (hasR es us - n)) (Value.string us) else setR es us (hasR es us - n)⟩
def lmayF (us : BS) (n : Int) : Bool := !(std.seq us ⟨#[]⟩) && (decide ((std.slen us : Int) ≤ 16) && (decide (1 ≤ n) && decide (n ≤ 1073741824)))
def okMF (us : BS) (_n s p a : Int) (es : Ents) : Prop := (0 ≤ s ∧ s ≤ 1073741824) ∧ (0 ≤ p ∧ p ≤ 1073741824) ∧ (0 ≤ a ∧ a ≤ 1073741824) ∧ s + p ≤ 1073741824 ∧ (0 ≤ hasR es us ∧ hasR es us ≤ a) ∧ es.length < 30
def okXF (x y v w : Nat) : Prop := ∃ a b c d : Int, (0 ≤ a ∧ a ≤ 1073741824) ∧ (0 ≤ b ∧ b ≤ 1073741824) ∧ (0 ≤ c ∧ c ≤ 1073741824) ∧ (0 ≤ d ∧ d ≤ 1073741824) ∧ x = std.fof a ∧ y = std.fof b ∧ v = std.fof c ∧ w = std.fof d
noncomputable def rtF : RtF where
  may := lmayF
  mN := fun us n s p a h es => (mintF us n s p a h es).n
  mE := fun us n s p a h es => (mintF us n s p a h es).e
  mP := fun us n s p a h es => (mintF us n s p a h es).p
  mA := fun us n s p a h es => (mintF us n s p a h es).a
  mM := fun us n s p a h es => (mintF us n s p a h es).m
  rN := fun us n s p a h es => (redF us n s p a h es).n
  rE := fun us n s p a h es => (redF us n s p a h es).e
  rP := fun us n s p a h es => (redF us n s p a h es).p
  rA := fun us n s p a h es => (redF us n s p a h es).a
  rM := fun us n s p a h es => (redF us n s p a h es).m
  bE := fun n p => if n < 0 ∨ 1073741824 - p < n then 11 else 0
  bS := fun n s p => if n < 0 ∨ 1073741824 - p < n then s else n
  bH := fun n p h => if n < 0 ∨ 1073741824 - p < n then h else false
  ri := fun x y v w => decide (std.fint x * std.fint w ≤ std.fint v * std.fint y)
  okX := okXF
  okM := okMF
  okS := okTR
  srt := srtTR
theorem seq_slen (us : BS) : std.seq us (ByteArray.mk (Array.mk [])) = decide ((std.slen us : Int) < 1) := by
  show (us.data.toList == []) = decide (((us.data.toList.length : Nat) : Int) < 1)
  cases us.data.toList with
  | nil => rfl
  | cons a r =>
    rw [decide_eq_false]
    · rfl
    · rw [List.length_cons]; omega
theorem lmay_bad (us : BS) (n : Int) : (lmayF us n = true → ¬ badR us n) ∧ (lmayF us n = false → badR us n) := by
  have e : lmayF us n = !decide (badR us n) := by
    unfold lmayF badR
    rw [show std.seq us ⟨#[]⟩ = _ from seq_slen us]
    by_cases h1 : (std.slen us : Int) < 1 <;> by_cases h2 : 16 < (std.slen us : Int) <;> by_cases h3 : n < 1 <;> by_cases h4 : 1073741824 < n <;> simp [h1, h2, h3, h4] <;> omega
  rw [e]
  exact ⟨fun h => by simpa using h, fun h => by simpa using h⟩
theorem mfind_mput (z : Value) (s : BS) (k v : Value) (h : keyB z k k = true) : ∀ es : Ents, mfind z (mput z es k v) k = some v
  | [] => by unfold mput mfind; rw [if_pos h]
  | e :: r => by
    unfold mput
    split
    · unfold mfind; rw [if_pos h]
    · rename_i h2
      unfold mfind; rw [if_neg h2, mfind_mput z s k v h r]
theorem has_set (es : Ents) (us : BS) (v : Int) : std.dint (std.mget (Value.string (ByteArray.mk (Array.mk []))) (Value.int IntKind.i64 (0 : Int)) (std.mput (Value.string (ByteArray.mk (Array.mk []))) es (Value.string us) (Value.int IntKind.i64 v)) (Value.string us)) = v := by
  show dint ((mfind _ (mput _ es _ _) _).getD _) = v
  rw [mfind_mput _ us _ _ (by show ((us.data.toList) == us.data.toList) = true; exact beq_self_eq_true _)]
  rfl
theorem mul_rng {x y : Int} (hx : 0 ≤ x ∧ x ≤ 1073741824) (hy : 0 ≤ y ∧ y ≤ 1073741824) : 0 ≤ x * y ∧ x * y ≤ 1152921504606846976 := by
  refine ⟨Int.mul_nonneg hx.1 hy.1, ?_⟩
  have := Int.mul_le_mul hx.2 hy.2 hy.1 (by omega)
  exact Int.le_trans this (by decide)
theorem quo_rng {x y : Int} (hx : 0 ≤ x ∧ x ≤ 1152921504606846976) (hy : 0 ≤ y) : 0 ≤ std.quo x y ∧ std.quo x y ≤ 1152921504606846976 := by
  show 0 ≤ Int.tdiv x y ∧ Int.tdiv x y ≤ _
  refine ⟨Int.tdiv_nonneg hx.1 hy, ?_⟩
  have := Int.tdiv_le_self y hx.1
  omega
/-- Steps of the conditions: all that is asked is told apart. -/
macro "rsteps" : tactic => `(tactic| repeat' first | (refine And.intro ?_ ?_) | (intro _))
macro "rnum" : tactic => `(tactic| (try simp only [decide_eq_true_eq, decide_eq_false_iff_not, beq_iff_eq, beq_eq_false_iff_ne, ne_eq] at *))
macro "rifs" : tactic => `(tactic| repeat' first | rw [if_pos (by omega)] | rw [if_neg (by omega)])
theorem lmay_run (us : BS) (n : Int) : runP std noCon 60 noL (lmayP rtF) 25 Try.f25 (us, n, ()) := by
  refine (ledmay_vc rtF us n).mpr ?_
  have e : rtF.may us n = (!(std.seq us (ByteArray.mk (Array.mk []))) && (decide ((std.slen us : Int) ≤ 16) && (decide (1 ≤ n) && decide (n ≤ 1073741824)))) := rfl
  rw [e]
  refine ⟨fun h1 => ⟨fun h2 => ⟨fun h3 => ⟨fun h4 => ?_, fun h4 => ?_⟩, fun h3 => ?_⟩, fun h2 => ?_⟩, fun h1 => ?_⟩ <;> simp only [*] <;> rfl
theorem lmay_ok : PFOk Try.prog 25 (lmayP rtF) :=
  pf_ok (LS := fun _ => noL) Try.progOk (noCon_ok _) (inCallF_ok 60) (lmayP rtF) Try.func25 (show _ = some (bodyS Try.prog 25) by kernel_rfl) fun d _ => lmay_run d.1 d.2.1
theorem back_run (n s p a : Int) (h : Bool) (es : Ents) (hp : 0 ≤ p ∧ p ≤ 1073741824) : runW std noCon 60 noL (backO std rtF) 11 Try.f11 (n, s, p, a, h, es, ()) := by
  refine (back_vc rtF n s p a h es).mpr ?_
  dsimp only [rtF]
  rsteps <;> rnum <;> first | omega | (rifs; done)
theorem ri_run (x y v w : Nat) (hx : okXF x y v w) : runW std noCon 60 noL (riO rtF) 18 Try.f18 ((x, y), (v, w), ()) := by
  refine (ri_vc rtF x y v w).mpr ?_
  obtain ⟨a, b, c, d, ha, hb, hc, hd, rfl, rfl, rfl, rfl⟩ := hx
  have m1 := mul_rng hc hb
  have m2 := mul_rng ha hd
  have f1 := fint_fof (n := a) (by omega)
  have f2 := fint_fof (n := b) (by omega)
  have f3 := fint_fof (n := c) (by omega)
  have f4 := fint_fof (n := d) (by omega)
  have g1 := fintOk_fof (n := a) (by omega)
  have g2 := fintOk_fof (n := b) (by omega)
  have g3 := fintOk_fof (n := c) (by omega)
  have g4 := fintOk_fof (n := d) (by omega)
  dsimp only [rtF]
  rw [f1, f2, f3, f4]
  refine ⟨g3, g2, ⟨by omega, by omega⟩, g1, g4, ⟨by omega, by omega⟩, fun h => ?_, fun h => ?_⟩ <;> rw [h]
theorem mint_run (us : BS) (n s p a : Int) (h : Bool) (es : Ents) (ok : okMF us n s p a es) : runW std (mrCon std rtF) 60 noL (mintO rtF) 10 Try.f10 (us, n, s, p, a, h, es, ()) := by
  refine (mint_vc rtF us n s p a h es).mpr ?_
  unfold mintL
  obtain ⟨hs, hp, ha, hsp, hh, hl⟩ := ok
  have hb := lmay_bad us n
  unfold hasR at hh
  dsimp only [rtF]
  refine ⟨trivial, fun h1 => ?_, fun h1 => ?_⟩
  · have hb := hb.1 h1
    unfold mintF qR setR hasR
    rw [if_neg hb]
    unfold badR at hb
    have hna := mul_rng (x := n) (y := a) (by omega) ha
    have hq := quo_rng hna (y := s + p) (by omega)
    clear h1
    cases h
    · rw [if_neg (by decide)]
      rsteps <;> rnum <;> first | rfl | contradiction | omega | (rifs; done)
    · rw [if_pos rfl]
      rsteps <;> first | rfl | contradiction
  · have hb := hb.2 h1
    unfold mintF
    rw [if_pos hb]
theorem rmint_run (us : BS) (n s p a : Int) (h : Bool) (es : Ents) (ok : okMF us n s p a es) : runW std noCon 60 noL (rmintO rtF) 23 Try.f23 (us, n, s, p, a, h, es, ()) := by
  refine (rmint_vc rtF us n s p a h es).mpr ?_
  unfold mintL
  obtain ⟨hs, hp, ha, hsp, hh, hl⟩ := ok
  unfold hasR at hh
  dsimp only [rtF]
  by_cases hb : badR us n
  · unfold mintF
    rw [if_pos hb]
    unfold badR at hb
    rsteps <;> rnum <;> first | rfl | contradiction | omega
  · unfold mintF qR setR hasR
    rw [if_neg hb]
    unfold badR at hb
    have hna := mul_rng (x := n) (y := a) (by omega) ha
    have hq := quo_rng hna (y := s + p) (by omega)
    cases h
    · rw [if_neg (by decide)]
      rsteps <;> rnum <;> first | rfl | contradiction | omega | (rifs; done)
    · rw [if_pos rfl]
      rsteps <;> rnum <;> first | rfl | contradiction | omega
theorem red_run (us : BS) (n s p a : Int) (h : Bool) (es : Ents) (ok : okMF us n s p a es) : runW std (mrCon std rtF) 60 noL (redO rtF) 13 Try.f13 (us, n, s, p, a, h, es, ()) := by
  refine (red_vc rtF us n s p a h es).mpr ?_
  unfold redL
  obtain ⟨hs, hp, ha, hsp, hh, hl⟩ := ok
  have hb := lmay_bad us n
  unfold hasR at hh
  dsimp only [rtF]
  refine ⟨trivial, fun h1 => ?_, fun h1 => ?_⟩
  · have hb := hb.1 h1
    unfold redF setR hasR
    rw [if_neg hb]
    unfold badR at hb
    have hna := mul_rng (x := n) (y := s + p) (by omega) (by omega)
    have hq := quo_rng hna (y := a) (by omega)
    clear h1
    cases h
    · rw [if_neg (by decide)]
      rsteps <;> rnum <;> first | rfl | contradiction | omega | (rifs; done)
    · rw [if_pos rfl]
      rsteps <;> first | rfl | contradiction
  · have hb := hb.2 h1
    unfold redF
    rw [if_pos hb]
theorem rred_run (us : BS) (n s p a : Int) (h : Bool) (es : Ents) (ok : okMF us n s p a es) : runW std noCon 60 noL (rredO rtF) 24 Try.f24 (us, n, s, p, a, h, es, ()) := by
  refine (rred_vc rtF us n s p a h es).mpr ?_
  unfold redL
  obtain ⟨hs, hp, ha, hsp, hh, hl⟩ := ok
  unfold hasR at hh
  dsimp only [rtF]
  rw [has_set]
  by_cases hb : badR us n
  · unfold redF
    rw [if_pos hb]
    unfold badR at hb
    rsteps <;> rnum <;> first | rfl | contradiction | omega
  · unfold redF setR hasR
    rw [if_neg hb]
    unfold badR at hb
    have hna := mul_rng (x := n) (y := s + p) (by omega) (by omega)
    have hq := quo_rng hna (y := a) (by omega)
    cases h
    · rw [if_neg (by decide)]
      rsteps <;> rnum <;> first | rfl | contradiction | omega | (rifs; done)
    · rw [if_pos rfl]
      rsteps <;> rnum <;> first | rfl | contradiction | omega
end Go.Proofs.Ytddejgkfgnokgaa
end
