/-
  KV: kinds of data, functions of immutable data: contracts' forms.
-/
import Derived.Test.YtledddhagpgfaaaFw6
import Derived.Shelf.SlIterI.Nil
import Derived.Shelf.SortM.Plain
import Derived.Shelf.SortM.SortNone
import Derived.Ground.GgzProg
import Derived.Ground.SlgmProg
import Derived.Shelf.Spec.SlicesGrow
import Derived.Ground.Names8Prog
section
namespace Go.Proofs.Ytledddhagpgfaaa
open Go.RowKit Go.Abs Go
set_option maxRecDepth 100000
noncomputable section
def bodyS (P : Program) (f : Nat) : Code := ((P.funcs[f]?).bind (·.body)).getD .skip
/-- A function's text against what is said of it. -/
def runP (S : Sy) (C : Con) (n : Nat) (LS : Loops) (F : PF) (f : Nat) (fn : Func) (d : F.D) : Prop := lawV S Try.prog C (inCallF 60) n LS fn (bodyS Try.prog f) (F.args d) (hpOf []) (F.done d)
def noL : Loops := fun _ => none
def zS : Value := .string ⟨#[]⟩
def zP : Value := .agg #[.string ⟨#[]⟩, .string ⟨#[]⟩]
def zI : Value := .int .i64 0
def cP : Cod (List Value) := cL zP rfl
def cPr : Cod (ByteArray × ByteArray × Unit) := cA (.cons cS rfl (.cons cS rfl .nil))
def fnV (f : FuncId) : Value := .func (.func f) #[] #[]
theorem raw_fn (f : FuncId) (deep : Value → Value → Option (List Value)) (u : Value) : rawV deep (fnV f) u = if vbeq1 (fnV f) u then some (fnV f) else none := rfl
def cF (f : FuncId) (h : vbeq1 (fnV f) (fnV f) = true) : Cod Unit := cK (fnV f) (by rw [raw_fn, if_pos h]) (fun deep u x h => by rw [raw_fn] at h; split at h <;> simp_all) rfl
/-- Strings held against one another: the runtime's own function. -/
def cmpC (cmp : ByteArray → ByteArray → Int) (args : List Value) (h : Hp) (K : Value → Hp → Prop) : Prop :=
  match args with
  | [a, b] => match den a, den b with
    | .string x, .string y => K (mk (.int .i64 (cmp x y))) h
    | _, _ => False
  | _ => False
def LIM : Nat := 1000000
theorem raw_nil (deep : Value → Value → Option (List Value)) (u : Value) : rawV deep (.slice none 0 0) u = if vbeq1 (.slice none 0 0) u then some (.slice none 0 0) else none := rfl
/-- nil. -/
def cN : Cod Unit := cK (.slice none 0 0) (by rw [raw_nil, if_pos (show vbeq1 (.slice none 0 0) (.slice none 0 0) = true from rfl)]) (fun deep u x h => by rw [raw_nil] at h; split at h <;> simp_all) rfl
def cI64 : Cod Int := cI .i64
/-- slices.Grow of nil. -/
def growP (S : Sy) (z : Value) : PF := pf (.cons cN (.cons cI64 .nil)) (fun d => S.ile 0 d.2.1 ∧ S.ile d.2.1 4000000) [dsl z []] (fun _ => [dsl z []]) true
def cIs : Cod (List Value) := cL zI rfl
def cSs : Cod (List Value) := cL zS rfl
def cYs : Cod (List Value) := cL (.int .u8 0) rfl
def cPss : Cod (List Value) := cL (dsl zP []) rfl
/-- Elements. -/
def zPs : Value := dsl zP []
def kP (xs : List Value) (i : Nat) : ByteArray := dstr (fld (xs.getD i zP) 0)
def vP (xs : List Value) (i : Nat) : ByteArray := dstr (fld (xs.getD i zP) 1)
def eI (xs : List Value) (i : Nat) : Int := dint (xs.getD i zI)
def eB (xs : List Value) (i : Nat) : Int := dint (xs.getD i (.int .u8 0))
def eS (xs : List Value) (i : Nat) : ByteArray := dstr (xs.getD i zS)
def eL (xs : List Value) (i : Nat) : List Value := dels (xs.getD i zPs)
/-- What the functions come to: letters. -/
structure KvF where
  cmp : ByteArray → ByteArray → Int
  bs : List Value → ByteArray → Int
  fd : List Value → ByteArray → Bool
  may : ByteArray → ByteArray → Bool
  rmay : ByteArray → ByteArray → Bool
  right : List Value → Bool
  rright : List Value → Bool
  same : List Value → List Value → Bool
  sameb : List Value → List Value → Bool
  get : List Value → ByteArray → ByteArray
  set : List Value → ByteArray → ByteArray → List Value
  setok : List Value → ByteArray → ByteArray → Bool
  del : List Value → ByteArray → List Value
  rng : List Value → ByteArray → ByteArray → List Value
  rset : List Value → ByteArray → ByteArray → List Value
  rdel : List Value → ByteArray → List Value
  rfirst : List Value → ByteArray → Int
  leaf : ByteArray → ByteArray → List Value
  key : Int → ByteArray
  txt : Int → ByteArray
  pairs : List Value → List Value
  cat : List Value → List Value
  one : Int → List Value
  text : List Value → List Value
  wi : Int → Int → Int → Int
variable (S : Sy) (g : KvF)
def mayP : PF := pf (.cons cPr .nil) (fun _ => True) [.bool false] fun d => [mkb (g.may d.1.1 d.1.2.1)]
def rmayP : PF := pf (.cons cPr .nil) (fun _ => True) [.bool false] fun d => [mkb (g.rmay d.1.1 d.1.2.1)]
def rightP : PF := pf (.cons cP .nil) (fun d => S.nle (S.len d.1) LIM) [.bool false] fun d => [mkb (g.right d.1)]
def rrightP : PF := pf (.cons cP .nil) (fun d => S.nle (S.len d.1) LIM) [.bool false] fun d => [mkb (g.rright d.1)]
def sameP : PF := pf (.cons cP (.cons cP .nil)) (fun d => S.nle (S.len d.1) LIM) [.bool false] fun d => [mkb (g.same d.1 d.2.1)]
def samebP : PF := pf (.cons cYs (.cons cYs .nil)) (fun d => S.nle (S.len d.1) LIM) [.bool false] fun d => [mkb (g.sameb d.1 d.2.1)]
def getP : PF := pf (.cons cP (.cons cS .nil)) (fun d => S.nle (S.len d.1) LIM) [zS, .bool false] fun d => [mk (.string (g.get d.1 d.2.1)), mkb (g.fd d.1 d.2.1)]
def firstP : PF := pf (.cons cP (.cons cS .nil)) (fun d => S.nle (S.len d.1) LIM) [zI] fun d => [mk (.int .i64 (g.bs d.1 d.2.1))]
def setP : PF := pf (.cons cP (.cons cPr .nil)) (fun d => S.nle (S.len d.1) LIM) [dsl zP [], .bool false] fun d => [dsl zP (g.set d.1 d.2.1.1 d.2.1.2.1), mkb (g.setok d.1 d.2.1.1 d.2.1.2.1)]
def delP : PF := pf (.cons cP (.cons cS .nil)) (fun d => S.nle (S.len d.1) LIM) [dsl zP []] fun d => [dsl zP (g.del d.1 d.2.1)]
def rngP : PF := pf (.cons cP (.cons cS (.cons cS .nil))) (fun d => S.nle (S.len d.1) LIM) [dsl zP []] fun d => [dsl zP (g.rng d.1 d.2.1 d.2.2.1)]
def rsetP : PF := pf (.cons cP (.cons cPr .nil)) (fun d => S.nle (S.len d.1) LIM) [dsl zP []] fun d => [dsl zP (g.rset d.1 d.2.1.1 d.2.1.2.1)]
def rdelP : PF := pf (.cons cP (.cons cS .nil)) (fun d => S.nle (S.len d.1) LIM) [dsl zP []] fun d => [dsl zP (g.rdel d.1 d.2.1)]
def rfirstP : PF := pf (.cons cP (.cons cS .nil)) (fun d => S.nle (S.len d.1) LIM) [zI] fun d => [mk (.int .i64 (g.rfirst d.1 d.2.1))]
def keyP : PF := pf (.cons cI64 .nil) (fun d => inI S d.1) [zS] fun d => [mk (.string (g.key d.1))]
def txtP : PF := pf (.cons cI64 .nil) (fun d => inI S d.1) [zS] fun d => [mk (.string (g.txt d.1))]
structure IL where
  i : Int
structure NIL where
  n : Int
  i : Int
structure BsL where
  n : Int
  i : Int
  j : Int
def loop1 (L : LSpec) (b : Nat) : Loops := fun id => if id = b then some [L] else none
/-- A walk over all of a slice: slots a, b hold it, n its length, i the number. -/
def walkLs (nt a b n i : Nat) (xs : List Value) (I : NIL → Prop) (m : NIL → Nat) : Loops := loop1 { D := NIL, sh := ⟨slotsOf nt [(a, .one (.zero (.deep zP))), (b, .one (.zero (.deep zP))), (n, .one (.zero .hole)), (i, .one (.zero .hole))], []⟩, rho := fun _ => [], fills := fun d => [.dl xs, .dl xs, .val (.int .i64 d.n), .val (.int .i64 d.i)], I := I, m := m } 0
def sameLs (z : Value) (xs ys : List Value) (I : IL → Prop) (m : IL → Nat) : Loops := loop1 { D := IL, sh := ⟨slotsOf 26 [(0, .one (.zero (.deep z))), (1, .one (.zero (.deep z))), (5, .one (.zero .hole))], []⟩, rho := fun _ => [], fills := fun d => [.dl xs, .dl ys, .val (.int .i64 d.i)], I := I, m := m } 0
def rfirstLs (xs : List Value) (k : ByteArray) (I : IL → Prop) (m : IL → Nat) : Loops := loop1 { D := IL, sh := ⟨slotsOf 22 [(0, .one (.zero (.deep zP))), (1, .one (.zero .hole)), (5, .one (.zero .hole))], []⟩, rho := fun _ => [], fills := fun d => [.dl xs, .val (.string k), .val (.int .i64 d.i)], I := I, m := m } 0
structure DelL where
  n : Int
  i : Int
  r : List Value
def rdelSh : Shape := ⟨slotsOf 24 [(1, .one (.zero .hole)), (5, .one (.zero (.osl 0 zP))), (8, .one (.zero (.deep zP))), (9, .one (.zero .hole)), (10, .one (.zero .hole))], [some .tok]⟩
def rdelLs (xs : List Value) (k : ByteArray) (I : DelL → Prop) (m : DelL → Nat) : Loops := loop1 { D := DelL, sh := rdelSh, rho := rdelSh.find 0, fills := fun d => [.val (.string k), .dl d.r, .dl xs, .val (.int .i64 d.n), .val (.int .i64 d.i)], I := I, m := m } 0
def catP : PF := pf (.cons cPss .nil) (fun d => S.nle (S.len d.1) 3 ∧ ∀ i, S.nlt i (S.len d.1) → S.nle (S.len (S.dels (S.get (dsl zP []) d.1 i))) LIM) [dsl zP []] fun d => [dsl zP (g.cat d.1)]
def cloneP : PF := pf (.cons cP .nil) (fun d => S.nle (S.len d.1) LIM) [dsl zP []] (fun d => [dsl zP d.1]) true
def oneP : PF := pf (.cons cI64 .nil) (fun d => S.ile 0 d.1 ∧ S.ile d.1 1099511627775) [dsl (.int .u8 0) []] fun d => [dsl (.int .u8 0) (g.one d.1)]
def textP : PF := pf (.cons cSs .nil) (fun d => S.nle (S.len d.1) 2 ∧ ∀ i, S.nlt i (S.len d.1) → S.nle (S.slen (S.dstr (S.get zS d.1 i))) LIM) [dsl (.int .u8 0) []] fun d => [dsl (.int .u8 0) (g.text d.1)]
def leafP : PF := pf (.cons cPr .nil) (fun d => S.nle (S.slen d.1.1) LIM ∧ S.nle (S.slen d.1.2.1) LIM) [dsl (.int .u8 0) []] fun d => [dsl (.int .u8 0) (g.leaf d.1.1 d.1.2.1)]
structure CatA where
  s : Int
  n : Int
  i : Int
structure CatB where
  r : List Value
  n : Int
  i : Int
def catSh : Shape := ⟨slotsOf 36 [(6, .one (.zero (.osl 0 zP))), (25, .one (.zero (.deep (dsl zP [])))), (26, .one (.zero .hole)), (27, .one (.zero .hole))], [some .tok]⟩
def catLs (xss : List Value) (I : CatA → Prop) (m : CatA → Nat) (J : CatB → Prop) (l : CatB → Nat) : Loops := fun id => if id = 0 then some [{ D := CatA, sh := ⟨slotsOf 36 [(0, .one (.zero (.deep (dsl zP [])))), (3, .one (.zero .hole)), (9, .one (.zero (.deep (dsl zP [])))), (10, .one (.zero .hole)), (11, .one (.zero .hole))], []⟩, rho := fun _ => [], fills := fun d => [.dl xss, .val (.int .i64 d.s), .dl xss, .val (.int .i64 d.n), .val (.int .i64 d.i)], I := I, m := m }] else
  if id = 2 then some [{ D := CatB, sh := catSh, rho := catSh.find 0, fills := fun d => [.dl d.r, .dl xss, .val (.int .i64 d.n), .val (.int .i64 d.i)], I := J, m := l }] else none
structure OneL where
  n : Int
  r : List Value
def oneSh : Shape := ⟨slotsOf 26 [(0, .one (.zero .hole)), (3, .one (.zero (.osl 0 (.int .u8 0))))], [some .tok]⟩
def oneLs (I : OneL → Prop) (m : OneL → Nat) : Loops := loop1 { D := OneL, sh := oneSh, rho := oneSh.find 0, fills := fun d => [.val (.int .i64 d.n), .dl d.r], I := I, m := m } 0
def textSh : Shape := ⟨slotsOf 21 [(3, .one (.zero (.osl 0 (.int .u8 0)))), (6, .one (.zero (.deep zS))), (7, .one (.zero .hole)), (8, .one (.zero .hole))], [some .tok]⟩
def textLs (xs : List Value) (I : CatB → Prop) (m : CatB → Nat) : Loops := loop1 { D := CatB, sh := textSh, rho := textSh.find 0, fills := fun d => [.dl d.r, .dl xs, .val (.int .i64 d.n), .val (.int .i64 d.i)], I := I, m := m } 0
def withinCon : Con := conL [(17, withinC S)]
def playsP : PF := pf (.cons cIs (.cons cP .nil)) (fun _ => True) [.bool false] fun _ => [.bool true]
structure PlL where
  i : Int
  a : List Value
  b : List Value
def playsLs (xs ps : List Value) (I : PlL → Prop) (m : PlL → Nat) : Loops := loop1 { D := PlL, sh := ⟨slotsOf 165 [(0, .one (.zero (.deep zI))), (1, .one (.zero (.deep zP))), (5, .one (.zero (.deep zP))), (6, .one (.zero (.deep zP))), (7, .one (.zero .hole))], []⟩, rho := fun _ => [], fills := fun d => [.dl xs, .dl ps, .dl d.a, .dl d.b, .val (.int .i64 d.i)], I := I, m := m } 0
def pairsP : PF := pf (.cons cIs .nil) (fun d => ∀ i, S.nlt i (S.len d.1) → inI S (S.dint (S.get zI d.1 i))) [dsl zP []] fun d => [dsl zP (g.pairs d.1)]
structure PaL where
  i : Int
  es : List (Value × Value)
structure PaM where
  r : List Value
  n : Int
  i : Int
  es : List (Value × Value)
def pairsSh : Shape := ⟨slotsOf 54 [(0, .one (.zero (.deep zI))), (3, .one (.zero (.map 0))), (4, .one (.zero .hole))], [some (.smap zS zS)]⟩
def pairsSh2 : Shape := ⟨slotsOf 54 [(3, .one (.zero (.map 0))), (5, .one (.zero (.osl 1 zP))), (33, .one (.zero (.deep zS))), (34, .one (.zero .hole)), (35, .one (.zero .hole))], [some (.smap zS zS), some .tok]⟩
def pairsLs (xs ks : List Value) (I : PaL → Prop) (m : PaL → Nat) (J : PaM → Prop) (q : PaM → Nat) : Loops := fun id =>
  if id = 0 then some [{ D := PaL, sh := pairsSh, rho := pairsSh.find 0, fills := fun d => [.dl xs, .val (.int .i64 d.i), .me d.es], I := I, m := m }] else
  if id = 2 then some [{ D := PaM, sh := pairsSh2, rho := pairsSh2.find 0, fills := fun d => [.dl d.r, .dl ks, .val (.int .i64 d.n), .val (.int .i64 d.i), .me d.es], I := J, m := q }] else none
def rangesP : PF := pf (.cons cIs (.cons cI64 (.cons cI64 (.cons cI64 (.cons cP .nil))))) (fun _ => True) [.bool false] fun _ => [.bool true]
structure RgA where
  j : Int
  n : Int
  i : Int
structure RgC where
  n : Int
  i : Int
  a : Int
  m : Int
  e : Int
def rangesLs (ps l r : List Value) (k1 k2 k3 : ByteArray) (I : RgA → Prop) (m : RgA → Nat) (J : NIL → Prop) (q : NIL → Nat) (G : RgC → Prop) (w : RgC → Nat) : Loops := fun id =>
  if id = 0 then some [{ D := RgA, sh := ⟨slotsOf 144 [(4, .one (.zero (.deep zP))), (11, .one (.zero (.deep zP))), (12, .one (.zero .hole)), (13, .one (.zero .hole)), (14, .one (.zero .hole)), (15, .one (.zero (.deep zP))), (16, .one (.zero .hole)), (34, .one (.zero (.deep zP))), (35, .one (.zero .hole)), (36, .one (.zero .hole))], []⟩, rho := fun _ => [], fills := fun d => [.dl ps, .dl l, .val (.string k1), .val (.string k2), .val (.string k3), .dl r, .val (.int .i64 d.j), .dl l, .val (.int .i64 d.n), .val (.int .i64 d.i)], I := I, m := m }] else
  if id = 2 then some [{ D := NIL, sh := ⟨slotsOf 144 [(4, .one (.zero (.deep zP))), (11, .one (.zero (.deep zP))), (99, .one (.zero .hole)), (100, .one (.zero .hole))], []⟩, rho := fun _ => [], fills := fun d => [.dl ps, .dl l, .val (.int .i64 d.n), .val (.int .i64 d.i)], I := J, m := q }] else
  if id = 4 then some [{ D := RgC, sh := ⟨slotsOf 144 [(4, .one (.zero (.deep zP))), (11, .one (.zero (.deep zP))), (19, .one (.zero .hole)), (99, .one (.zero .hole)), (100, .one (.zero .hole)), (104, .one (.zero .hole)), (105, .one (.zero .hole))], []⟩, rho := fun _ => [], fills := fun d => [.dl ps, .dl l, .val (.int .i64 d.a), .val (.int .i64 d.n), .val (.int .i64 d.i), .val (.int .i64 d.m), .val (.int .i64 d.e)], I := G, m := w, gh := some fun d => [.int .i64 d.a, .int .i64 d.n, .int .i64 d.i] }] else none
/-- Within, of any bounds. -/
def withinP : PF := pf (.cons cI64 (.cons cI64 (.cons cI64 .nil))) (fun d => inI S d.1 ∧ S.ile (-1000000000000) d.2.1 ∧ S.ile d.2.1 d.2.2.1 ∧ S.ile d.2.2.1 2000000000000) [zI] fun d => [mk (.int .i64 (g.wi d.1 d.2.1 d.2.2.1))]
structure OrA where
  tu : List Value
  i : Int
structure OrB where
  x : List Value
  tu : List Value
  n : Int
  i : Int
structure OrC where
  x : List Value
  y : List Value
  f : List Value
  i : Int
def orderLs (os l : List Value) (n : Int) (I : OrA → Prop) (m : OrA → Nat) (J : OrB → Prop) (q : OrB → Nat) (G : OrC → Prop) (w : OrC → Nat) : Loops := fun id =>
  if id = 0 then some [{ D := OrA, sh := ⟨slotsOf 159 [(1, .one (.zero (.deep zI))), (2, .one (.zero .hole)), (7, .one (.zero (.deep zP))), (8, .one (.zero (.deep zP))), (9, .one (.zero .hole))], []⟩, rho := fun _ => [], fills := fun d => [.dl os, .val (.int .i64 n), .dl l, .dl d.tu, .val (.int .i64 d.i)], I := I, m := m }] else
  if id = 2 then some [{ D := OrB, sh := ⟨slotsOf 159 [(2, .one (.zero .hole)), (7, .one (.zero (.deep zP))), (11, .one (.zero (.deep zP))), (62, .one (.zero (.deep zP))), (63, .one (.zero .hole)), (64, .one (.zero .hole))], []⟩, rho := fun _ => [], fills := fun d => [.val (.int .i64 n), .dl l, .dl d.x, .dl d.tu, .val (.int .i64 d.n), .val (.int .i64 d.i)], I := J, m := q }] else
  if id = 4 then some [{ D := OrC, sh := ⟨slotsOf 159 [(2, .one (.zero .hole)), (7, .one (.zero (.deep zP))), (11, .one (.zero (.deep zP))), (14, .one (.zero (.deep zP))), (16, .one (.zero (.deep zP))), (89, .one (.zero .hole))], []⟩, rho := fun _ => [], fills := fun d => [.val (.int .i64 n), .dl l, .dl d.x, .dl d.y, .dl d.f, .val (.int .i64 d.i)], I := G, m := w }] else none
def orderP : PF := pf (.cons cIs (.cons cIs (.cons cI64 .nil))) (fun _ => True) [.bool false] fun _ => [.bool true]
end
end Go.Proofs.Ytledddhagpgfaaa
end
section
namespace Go.Proofs.Ytledddhagpgfaaa
open Go.RowKit Go.Abs Go
set_option maxRecDepth 100000
noncomputable section
/-- An object's function's text against what is said of it. -/
def runW (S : Sy) (C : Con) (n : Nat) (LS : Loops) (F : OF) (f : Nat) (fn : Func) (d : FC F.ts) : Prop := runO S Try.prog C (inCallF 60) n LS F fn (bodyS Try.prog f) d
def zY : Value := .int .u8 0
/-- What the functions come to: letters. -/
structure StF where
  one : Int → List Value
  put : List Value → List Value
  numn : List Value → Bool → Int
  numr : List Value → Bool → List Value
  numb : List Value → Bool → Bool
  rtok : ByteArray → Int
  rrew : ByteArray → Int
  rok : ByteArray → Bool
  rcd : Int → Int → ByteArray
  rput : Int → List Value
  rrcd : Int → Int → ByteArray
  nval : ByteArray → Int
  nlen : ByteArray → Int
  qtok : ByteArray → Int
  qrew : ByteArray → Int
  qok : ByteArray → Bool
  bck : List Value → Int
  bok : List Value → Bool
  rbck : List Value → Int
  rbok : List Value → Bool
  stk : Int → List Value → ByteArray → Int → Int → List Value
  ster : Int → List Value → ByteArray → Int → Int → Int
  rstk : Int → List Value → ByteArray → Int → Int → List Value
  rster : Int → List Value → ByteArray → Int → Int → Int
  okl : List Value → Prop
  pick : List Value → Int → Int
variable (S : Sy) (g : KvF) (t : StF)
/-- vint.one of any number. -/
def one1P : PF := pf (.cons cI64 .nil) (fun d => inI S d.1) [dsl zY []] fun d => [dsl zY (t.one d.1)]
/-- vint.Put of few numbers. -/
def putP : PF := pf (.cons cIs .nil) (fun d => S.nle (S.len d.1) LIM ∧ ∀ i, S.nlt i (S.len d.1) → inI S (S.dint (S.get zI d.1 i))) [dsl zY []] fun d => [dsl zY (t.put d.1)]
def rdrB : SB := .cells [.zero (.deep zY), .zero .boo] false
def readO : OF := ⟨[.dl], ⟨[some (.one (.zero (.deep zY)))], []⟩, fun d => S.nle (S.len d.1) 4000000, [.one (.zero (.ptr 0 0))], [some rdrB], fun d => [.dl d.1, .val (.bool false)]⟩
def numO : OF := ⟨[.dl, .boo], ⟨[some (.one (.zero (.ptr 0 0)))], [some rdrB]⟩, fun _ => True, [.one (.zero .hole)], [some rdrB], fun d => [.val (.int .i64 (t.numn d.1 d.2.1)), .dl (t.numr d.1 d.2.1), .val (.bool (t.numb d.1 d.2.1))]⟩
structure NuL where
  n : Int
  s : Int
  b : List Value
  bad : Bool
def numSh : Shape := ⟨slotsOf 44 [(0, .one (.zero (.ptr 0 0))), (3, .one (.zero .hole)), (4, .one (.zero .hole))], [some rdrB]⟩
def numLs (I : NuL → Prop) (m : NuL → Nat) : Loops := loop1 { D := NuL, sh := numSh, rho := numSh.find 1, fills := fun d => [.val (.int .i64 d.n), .val (.int .i64 d.s), .dl d.b, .val (.bool d.bad)], I := I, m := m } 0
def putSh : Shape := ⟨slotsOf 18 [(3, .one (.zero (.osl 0 zY))), (6, .one (.zero (.deep zI))), (7, .one (.zero .hole)), (8, .one (.zero .hole))], [some .tok]⟩
def putLs (xs : List Value) (I : CatB → Prop) (m : CatB → Nat) : Loops := loop1 { D := CatB, sh := putSh, rho := putSh.find 0, fills := fun d => [.dl d.r, .dl xs, .val (.int .i64 d.n), .val (.int .i64 d.i)], I := I, m := m } 0
/-- stake.Read. -/
def rdP : PF := pf (.cons cS .nil) (fun d => S.nle (S.slen d.1) 4000000) [zI, zI, .bool false] fun d => [mk (.int .i64 (t.rtok d.1)), mk (.int .i64 (t.rrew d.1)), mkb (t.rok d.1)]
/-- stake.Record. -/
def rcdP : PF := pf (.cons cI64 (.cons cI64 .nil)) (fun d => inI S d.1 ∧ inI S d.2.1) [zS] fun d => [mk (.string (t.rcd d.1 d.2.1))]
/-- affiantref1.Put of a number that is so great at most. -/
def rputP (k : Int) : PF := pf (.cons cI64 .nil) (fun d => inI S d.1 ∧ S.ile d.1 k) [dsl zY []] (fun d => [dsl zY (t.rput d.1)]) true
def rrcdP : PF := pf (.cons cI64 (.cons cI64 .nil)) (fun d => inI S d.1 ∧ inI S d.2.1) [zS] fun d => [mk (.string (t.rrcd d.1 d.2.1))]
/-- affiantref10.number. -/
def nmP : PF := pf (.cons cS .nil) (fun d => S.nle (S.slen d.1) 9223372036854775807) [zI, zI] fun d => [mk (.int .i64 (t.nval d.1)), mk (.int .i64 (t.nlen d.1))]
structure NmL where
  n : Int
  i : Int
def nmLs (s : ByteArray) (I : NmL → Prop) (m : NmL → Nat) : Loops := loop1 { D := NmL, sh := ⟨slotsOf 46 [(0, .one (.zero .hole)), (4, .one (.zero .hole)), (5, .one (.zero .hole))], []⟩, rho := fun _ => [], fills := fun d => [.val (.string s), .val (.int .i64 d.n), .val (.int .i64 d.i)], I := I, m := m } 0
def qrdP : PF := pf (.cons cS .nil) (fun d => S.nle (S.slen d.1) 9223372036854775807) [zI, zI, .bool false] fun d => [mk (.int .i64 (t.qtok d.1)), mk (.int .i64 (t.qrew d.1)), mkb (t.qok d.1)]
/-- Backing. -/
def valsOk (d : List Value) : Prop := S.nle (S.len d) LIM ∧ ∀ i, S.nlt i (S.len d) → S.nle (S.slen (S.dstr (S.fld (S.get zP d i) 1))) 4000000
def bckP : PF := pf (.cons cP .nil) (fun d => valsOk S d.1) [zI, .bool false] fun d => [mk (.int .i64 (t.bck d.1)), mkb (t.bok d.1)]
def valsOk2 (d : List Value) : Prop := S.nle (S.len d) LIM ∧ ∀ i, S.nlt i (S.len d) → S.nle (S.slen (S.dstr (S.fld (S.get zP d i) 1))) 9223372036854775807
def rbckP : PF := pf (.cons cP .nil) (fun d => valsOk2 S d.1) [zI, .bool false] fun d => [mk (.int .i64 (t.rbck d.1)), mkb (t.rbok d.1)]
structure BkL where
  a : Int
  n : Int
  i : Int
def bckLs (nt : Nat) (xs : List Value) (I : BkL → Prop) (m : BkL → Nat) : Loops := loop1 { D := BkL, sh := ⟨slotsOf nt [(4, .one (.zero .hole)), (10, .one (.zero (.deep zP))), (11, .one (.zero .hole)), (12, .one (.zero .hole))], []⟩, rho := fun _ => [], fills := fun d => [.val (.int .i64 d.a), .dl xs, .val (.int .i64 d.n), .val (.int .i64 d.i)], I := I, m := m } 0
/-- Staking transactions. -/
def stPre (t : StF) (d : List Value) (s : ByteArray) (a b : Int) : Prop := t.okl d ∧ S.nle (S.slen s) LIM ∧ inI S a ∧ inI S b
def delgP : PF := pf (.cons cP (.cons cS (.cons cI64 .nil))) (fun d => stPre S t d.1 d.2.1 d.2.2.1 0) [dsl zP [], zI] fun d => [dsl zP (t.stk 1 d.1 d.2.1 d.2.2.1 0), mk (.int .i64 (t.ster 1 d.1 d.2.1 d.2.2.1 0))]
def rwdP : PF := pf (.cons cP (.cons cS (.cons cI64 .nil))) (fun d => stPre S t d.1 d.2.1 d.2.2.1 0) [dsl zP [], zI] fun d => [dsl zP (t.stk 2 d.1 d.2.1 d.2.2.1 0), mk (.int .i64 (t.ster 2 d.1 d.2.1 d.2.2.1 0))]
def slaP : PF := pf (.cons cP (.cons cS (.cons cI64 (.cons cI64 .nil)))) (fun d => stPre S t d.1 d.2.1 d.2.2.1 d.2.2.2.1) [dsl zP [], zI] fun d => [dsl zP (t.stk 3 d.1 d.2.1 d.2.2.1 d.2.2.2.1), mk (.int .i64 (t.ster 3 d.1 d.2.1 d.2.2.1 d.2.2.2.1))]
def rstkP : PF := pf (.cons cP (.cons cI64 (.cons cS (.cons cI64 (.cons cI64 .nil))))) (fun d => stPre S t d.1 d.2.2.1 d.2.2.2.1 d.2.2.2.2.1 ∧ S.ile 1 d.2.1 ∧ S.ile d.2.1 3) [dsl zP [], zI] fun d => [dsl zP (t.rstk d.2.1 d.1 d.2.2.1 d.2.2.2.1 d.2.2.2.2.1), mk (.int .i64 (t.rster d.2.1 d.1 d.2.2.1 d.2.2.2.1 d.2.2.2.2.1))]
end
end Go.Proofs.Ytledddhagpgfaaa
end
section
namespace Go.Proofs.Ytledddhagpgfaaa
open Go.RowKit Go.Abs Go
noncomputable section
structure MiF where
  idx : List Value → Int
  recs : List Value → List Value
  te : Int → Int → List Value → Int
  th : Int → Int → List Value → Int
  tb : Int → Int → Int → List Value → Int
  tr : Int → List Value → Int → List Value → List Value
  tl : Int → Bool → Int → List Value → Bool
variable (S : Sy) (g : KvF) (t : StF) (u : MiF)
def cloneQ : PF := pf (.cons cP .nil) (fun d => S.nle (S.len d.1) LIM) [dsl zP []] fun d => [dsl zP d.1]
def recsP : PF := pf (.cons cIs .nil) (fun d => S.nle (S.len d.1) 9223372036854775807 ∧ ∀ i, S.nlt i (S.len d.1) → inI S (S.dint (S.get zI d.1 i))) [dsl zP []] fun d => [dsl zP (u.recs d.1)]
def recsSh : Shape := ⟨slotsOf 42 [(3, .one (.zero (.osl 0 zP))), (7, .one (.zero (.deep zI))), (8, .one (.zero .hole)), (9, .one (.zero .hole))], [some .tok]⟩
def recsLs (xs : List Value) (I : CatB → Prop) (m : CatB → Nat) : Loops := loop1 { D := CatB, sh := recsSh, rho := recsSh.find 0, fills := fun d => [.dl d.r, .dl xs, .val (.int .i64 d.n), .val (.int .i64 d.i)], I := I, m := m } 0
def mirB : SB := .cells [.zero .hole, .zero .hole, .zero (.deep zP), .zero .boo] false
/-- The call's query, height, pairs; a mirror's height, backing, records, halted. -/
def takeO : OF := ⟨[.int .i64, .int .i64, .dl, .int .i64, .int .i64, .dl, .boo], ⟨[some (.one (.zero (.ptr 0 0))), some (.agg [.zero .hole, .zero .hole, .zero (.deep zP)])], [some mirB]⟩, fun d => S.nle (S.len d.2.2.1) LIM, [.one (.zero .hole)], [some mirB],
  fun d => [.val (.int .i64 (u.te d.2.2.2.1 d.2.1 d.2.2.1)), .val (.int .i64 (u.th d.2.2.2.1 d.2.1 d.2.2.1)), .val (.int .i64 (u.tb d.2.2.2.1 d.2.2.2.2.1 d.2.1 d.2.2.1)), .dl (u.tr d.2.2.2.1 d.2.2.2.2.2.1 d.2.1 d.2.2.1), .val (.bool (u.tl d.2.2.2.1 d.2.2.2.2.2.2.1 d.2.1 d.2.2.1))]⟩
def copyO : OF := ⟨[.int .i64, .int .i64, .dl, .boo], ⟨[some (.one (.zero (.ptr 0 0)))], [some mirB]⟩, fun d => S.nle (S.len d.2.2.1) LIM, [.one (.zero (.ptr 1 0))], [some mirB, some mirB],
  fun d => [.val (.int .i64 d.1), .val (.int .i64 d.2.1), .dl d.2.2.1, .val (.bool d.2.2.2.1), .val (.int .i64 d.1), .val (.int .i64 d.2.1), .dl d.2.2.1, .val (.bool d.2.2.2.1)]⟩
def recO : OF := ⟨[.int .i64, .int .i64, .dl, .boo], ⟨[some (.one (.zero (.ptr 0 0)))], [some mirB]⟩, fun d => S.nle (S.len d.2.2.1) LIM, [.one (.zero (.deep zP))], [some mirB],
  fun d => [.dl d.2.2.1, .val (.int .i64 d.1), .val (.int .i64 d.2.1), .dl d.2.2.1, .val (.bool d.2.2.2.1)]⟩
structure MpL where
  h : Int
  b : Int
  hal : Bool
  rc : List Value
  i : Int
  mh : Int
  mb : Int
  mr : List Value
  ml : Bool
structure MpK where
  h : Int
  b : Int
  hal : Bool
  rc : List Value
  i : Int
  mh : Int
  mb : Int
  mr : List Value
  ml : Bool
  kq : Int
  kh : Int
  kp : List Value
  ri : Bool
  n : Int
  j : Int
def mpSh : Shape := ⟨slotsOf 154 [(0, .one (.zero (.deep zI))), (1, .one (.zero (.deep (dsl zI [])))), (2, .one (.zero (.deep zP))), (7, .one (.zero (.ptr 0 0))), (8, .one (.zero .hole)), (9, .one (.zero .hole)), (10, .one (.zero .boo)), (11, .one (.zero (.deep zP))), (12, .one (.zero .hole))], [some mirB]⟩
def callB : SB := .cells [.zero .hole, .zero .hole, .zero (.deep zP)] false
def mpSh2 : Shape := ⟨slotsOf 154 [(0, .one (.zero (.deep zI))), (1, .one (.zero (.deep (dsl zI [])))), (2, .one (.zero (.deep zP))), (7, .one (.zero (.ptr 0 0))), (8, .one (.zero .hole)), (9, .one (.zero .hole)), (10, .one (.zero .boo)), (11, .one (.zero (.deep zP))), (12, .one (.zero .hole)), (13, .one (.zero (.ptr 1 0))), (14, .one (.zero .boo)), (74, .one (.zero (.deep zP))), (75, .one (.zero .hole)), (76, .one (.zero .hole))], [some mirB, some callB]⟩
def mpLs (hs rows raw : List Value) (I : MpL → Prop) (m : MpL → Nat) (J : MpK → Prop) (q : MpK → Nat) : Loops := fun id =>
  if id = 0 then some [{ D := MpL, sh := mpSh, rho := mpSh.find 0, fills := fun d => [.dl hs, .dl rows, .dl raw, .val (.int .i64 d.h), .val (.int .i64 d.b), .val (.bool d.hal), .dl d.rc, .val (.int .i64 d.i), .val (.int .i64 d.mh), .val (.int .i64 d.mb), .dl d.mr, .val (.bool d.ml)], I := I, m := m }] else
  if id = 2 then some [{ D := MpK, sh := mpSh2, rho := mpSh2.find 0, fills := fun d => [.dl hs, .dl rows, .dl raw, .val (.int .i64 d.h), .val (.int .i64 d.b), .val (.bool d.hal), .dl d.rc, .val (.int .i64 d.i), .val (.bool d.ri), .dl d.kp, .val (.int .i64 d.n), .val (.int .i64 d.j), .val (.int .i64 d.mh), .val (.int .i64 d.mb), .dl d.mr, .val (.bool d.ml), .val (.int .i64 d.kq), .val (.int .i64 d.kh), .dl d.kp], I := J, m := q, gh := some fun d => [.int .i64 d.i] }] else none
def cRows : Cod (List Value) := cL (dsl zI []) rfl
def mpP : PF := pf (.cons cIs (.cons cRows (.cons cP .nil))) (fun _ => True) [.bool false] fun _ => [.bool true]
end
end Go.Proofs.Ytledddhagpgfaaa
end
section
namespace Go.Proofs.Ytledddhagpgfaaa
open Go.RowKit Go.Abs Go
noncomputable section
abbrev Ents := List (Value × Value)
/-- A call; an entry (a call, a block), as one row of cells. -/
def zC : Value := .agg #[.int .i64 0, .int .i64 0, dsl zP []]
def zE : Value := .agg #[.int .i64 0, .int .i64 0, dsl zP [], .int .i64 0]
def cCall : Cod (Int × Int × List Value × Unit) := cA (.cons cI64 rfl (.cons cI64 rfl (.cons cP rfl .nil)))
structure CaF where
  pick : List Value → Int → Int
  pe : Int → Int → Int → Ents → Int
  pm : Int → Int → List Value → Int → Ents → Ents
  gq : Int → Int → Int → Ents → Int
  gh : Int → Int → Int → Ents → Int
  gp : Int → Int → Int → Ents → List Value
  ge : Int → Int → Int → Ents → Int
  lh : Int → Ents → Int
  okE : Ents → Prop
variable (S : Sy) (g : KvF) (u : CaF)
def pickQ : PF := pf (.cons cIs (.cons cI64 .nil)) (fun d => (∀ i, S.nlt i (S.len d.1) → inI S (S.dint (S.get zI d.1 i))) ∧ S.ile 0 d.2.1 ∧ S.ile d.2.1 1000000) [zI] fun d => [mk (.int .i64 (u.pick d.1 d.2.1))]
def pickQCon : Con := conL [(17, withinC S)]
def cpyP : PF := pf (.cons cCall .nil) (fun d => S.nle (S.len d.1.2.2.1) LIM) [zC] fun d => [.agg #[mk (.int .i64 d.1.1), mk (.int .i64 d.1.2.1), dsl zP d.1.2.2.1]]
def cacB : SB := .cells [.zero (.map 1)] false
/-- The call's query, height, pairs; the block; the entries. -/
def putO : OF := ⟨[.int .i64, .int .i64, .dl, .int .i64, .me], ⟨[some (.one (.zero (.ptr 0 0))), some (.agg [.zero .hole, .zero .hole, .zero (.deep zP)]), some (.one (.zero .hole))], [some cacB, some (.smap zI zE)]⟩, fun d => S.nle (S.len d.2.2.1) LIM, [.one (.zero .hole)], [some cacB, some (.smap zI zE)],
  fun d => [.val (.int .i64 (u.pe d.1 d.2.1 d.2.2.2.1 d.2.2.2.2.1)), .me (u.pm d.1 d.2.1 d.2.2.1 d.2.2.2.1 d.2.2.2.2.1)]⟩
/-- The query, the block, the bound; the entries. -/
def getO : OF := ⟨[.int .i64, .int .i64, .int .i64, .me], ⟨[some (.one (.zero (.ptr 0 0))), some (.one (.zero .hole)), some (.one (.zero .hole)), some (.one (.zero .hole))], [some cacB, some (.smap zI zE)]⟩, fun d => S.ile (-1000000) d.2.1 ∧ S.ile d.2.1 1000000 ∧ u.okE d.2.2.2.1, [.agg [.zero .hole, .zero .hole, .zero (.deep zP)], .one (.zero .hole)], [some cacB, some (.smap zI zE)],
  fun d => [.val (.int .i64 (u.gq d.1 d.2.1 d.2.2.1 d.2.2.2.1)), .val (.int .i64 (u.gh d.1 d.2.1 d.2.2.1 d.2.2.2.1)), .dl (u.gp d.1 d.2.1 d.2.2.1 d.2.2.2.1), .val (.int .i64 (u.ge d.1 d.2.1 d.2.2.1 d.2.2.2.1)), .me d.2.2.2.1]⟩
def lastO : OF := ⟨[.int .i64, .me], ⟨[some (.one (.zero (.ptr 0 0))), some (.one (.zero .hole))], [some cacB, some (.smap zI zE)]⟩, fun _ => True, [.one (.zero .hole)], [some cacB, some (.smap zI zE)],
  fun d => [.val (.int .i64 (u.lh d.1 d.2.1)), .me d.2.1]⟩
def cacO : OF := ⟨[.me], ⟨[some (.one (.zero (.ptr 0 0)))], [some cacB, some (.smap zI zE)]⟩, fun _ => True, [.one (.zero (.ptr 2 0))], [some cacB, some (.smap zI zE), some (.cells [.zero (.map 3)] false), some (.smap zI zE)],
  fun d => [.me d.1, .me d.1]⟩
structure CaL where
  i : Int
  es : Ents
  la : Ents
  wh : Ents
structure CaK where
  i : Int
  x : Int
  es : Ents
  la : Ents
  wh : Ents
def caSh : Shape := ⟨slotsOf 221 [(0, .one (.zero (.deep zI))), (1, .one (.zero (.deep zI))), (5, .one (.zero (.ptr 0 0))), (6, .one (.zero (.map 2))), (7, .one (.zero (.map 3))), (8, .one (.zero .hole))], [some cacB, some (.smap zI zE), some (.smap zI zC), some (.smap zI zI)]⟩
def caSh3 : Shape := ⟨slotsOf 221 [(0, .one (.zero (.deep zI))), (1, .one (.zero (.deep zI))), (5, .one (.zero (.ptr 0 0))), (6, .one (.zero (.map 2))), (7, .one (.zero (.map 3))), (8, .one (.zero .hole)), (16, .one (.zero .hole))], [some cacB, some (.smap zI zE), some (.smap zI zC), some (.smap zI zI)]⟩
def caLs (ns bs : List Value) (I : CaL → Prop) (m : CaL → Nat) (J : CaK → Prop) (q : CaK → Nat) : Loops := fun id =>
  if id = 0 then some [{ D := CaL, sh := caSh, rho := caSh.find 0, fills := fun d => [.dl ns, .dl bs, .val (.int .i64 d.i), .me d.es, .me d.la, .me d.wh], I := I, m := m }] else
  if id = 3 then some [{ D := CaK, sh := caSh3, rho := caSh3.find 0, fills := fun d => [.dl ns, .dl bs, .val (.int .i64 d.i), .val (.int .i64 d.x), .me d.es, .me d.la, .me d.wh], I := J, m := q, gh := some fun d => [.int .i64 d.i] }] else none
def caP : PF := pf (.cons cIs (.cons cIs .nil)) (fun _ => True) [.bool false] fun _ => [.bool true]
end
end Go.Proofs.Ytledddhagpgfaaa
end
section
namespace Go.Proofs.Ytledddhagpgfaaa
open Go.RowKit Go.Maps Go.Sort Go.Shelf Go.Abs
shelf_lay_g SlLaysZI.n7 Ggz 7 at Try 31 as Try.keysAQ
shelf_lay_g SlLaysZI.n6 Ggz 6 at Try 30 as Try.sortedAQ
shelf_lay_g SlLaysM.n5 Slgm 5 at Try 35 as Try.sortAQ
theorem Try.sortsAQ (m : Nat) : AnyZI.SortsIn Try.prog Try.sortedAQ_ren Fence.wide m :=
  ⟨fun blk off cap ss W hH hblk hsz => callsIn_wide.2 (AnyM.slices_Sort_int Try.sortAQ blk off cap ss W hH hblk hsz),
   fun p cap W => callsIn_wide.2 (AnyM.slices_Sort_int_none Try.sortAQ p cap W)⟩

theorem sorted_intQ {H : Type} (Bm b nn : Nat) (D0 : DataW H) (R : Value → Option (DataW H × List MemPlace)) (w : World) (hBm : Bm < w.heap.size) (hm : w.cell? ⟨Bm, 0, none⟩ = some (.map (some b))) (hown : w.ownsMap Try.prog 3 R b nn D0) (hmax : Maps.size D0 ≤ maxLen) (hbytes : Maps.size D0 * 8 ≤ 140737488355328) :
    Calls Try.prog 30 #[.func (.func 36) #[] #[.pointer (some ⟨Bm, 0, none⟩)]] w fun e w' => ∃ (v : Value) (ss : List Int), e = .returned v ∧ ss.Perm (intKeys D0) ∧
      w'.ownsRow w.heap.size 3 1 v ss.length ((ss.mergeSort (fun x y => decide (x ≤ y))).map encZ) ∧ (v = .slice none 0 0 ↔ ss = []) ∧ Below w.heap.size w w' := by
  refine (callsIn_wide (n := 5)).1 ?_
  have hseq : SeqGives Fence.wide 2 Try.prog 36 #[.pointer (some ⟨Bm, 0, none⟩)] encZ (fun ss => ss.Perm (intKeys D0)) (Maps.size D0) w :=
    AnyZI.keys_gives (ρ := Try.keysAQ_ren) { Try.keysAQ with } Fence.wide _ trivial rfl (by omega) Bm b nn D0 _ hBm hm hown
  have cS := AnyZI.sorted_in Try.sortedAQ Fence.wide 5 trivial trivial trivial trivial rfl (by omega) (Try.sortsAQ _) (enters_of Try.func35 (by kernel_rfl) rfl) 36 #[.pointer (some ⟨Bm, 0, none⟩)] trivial (enters_of Try.func36 (by kernel_rfl) rfl) _ _ hmax hbytes _ hseq
  change CallsIn _ _ Try.prog 30 _ _ _ at cS
  exact cS

noncomputable def srtIQ (es : List (Value × Value)) : List Value := valsOf .i64 (sortS (fun x y => decide (x ≤ y)) (es.map fun e => dint e.1))
def okKQ (es : List (Value × Value)) : Prop := es.length ≤ 1000 ∧ ∀ e ∈ es, -9223372036854775808 ≤ dint e.1 ∧ dint e.1 ≤ 9223372036854775807
/-- slices.Sorted(maps.Keys(m)). -/
noncomputable def sortCQ (srt : List (Value × Value) → List Value) (ok : List (Value × Value) → Prop) (args : List Value) (h : Hp) (K : Value → Hp → Prop) : Prop :=
  match args with
  | [.func (.func k) first captured] => match first.toList, captured.toList with
    | [], [.pointer (some ⟨bx, 0, none⟩)] => match h.get bx with
      | some (.cells [.map (some r)] false) => match h.get r with
        | some (.smap (.int .i64 _) _ es) => if k = 36 then ok es ∧ K (dsl zI (srt es)) h else False
        | _ => False
      | _ => False
    | _, _ => False
  | _ => False
theorem cout_outQ {μ μ' : Mu} {base : Nat} {h h' : Hp} {w w' : World} {v v' : Value} (hfree : ∀ b, h.next ≤ b → μ b = none) (ho : Out μ base h w v h' v' w' μ') : COut μ base h w v h' v' w' μ' := by
  refine ⟨ho.val, ho.sim.rel, fun b hb => ?_, ho.sim.fr, ho.sim.own, fun i hi => ?_, ho.next, ho.sim.le.z, ho.sim.fz⟩
  · by_cases e : μ' b = μ b
    · rw [e]; exact hfree b (Nat.le_trans ho.next hb)
    · have := ho.dom b e; omega
  · by_cases e : μ' i = μ i
    · exact e
    · have := ho.dom i e; omega
theorem sortCQ_ok : ∀ args h K, sortCQ srtIQ okKQ args h K → CallSem Try.prog 30 args h K := by
  intro args h K e μ base w args' hl hrel hfree
  unfold sortCQ at e
  split at e
  case h_2 => exact e.elim
  rename_i k first captured
  split at e
  case h_2 => exact e.elim
  rename_i bx hf hc
  split at e
  case h_2 => exact e.elim
  rename_i r hbx
  split at e
  case h_2 => exact e.elim
  rename_i kn vz es hr
  split at e
  case isFalse => exact e.elim
  rename_i hk
  subst hk
  obtain ⟨⟨hlen, hrng⟩, hK⟩ := e
  obtain ⟨v1, l1, e1, r1, hl⟩ := hl.inv_cons
  have e4 := hl.inv_nil
  subst e4
  obtain ⟨first', cap', rfl, g1, g2⟩ := r1.inv_func rfl
  rw [hf] at g1; rw [hc] at g2
  have g1 := g1.inv_nil
  obtain ⟨pv, l2, e2, r2, g2⟩ := g2.inv_cons
  have g2 := g2.inv_nil
  subst g2
  have r2' : VR μ (.pointer (some ⟨bx, 0, none⟩)) pv := .zero r2
  obtain ⟨p, hp, rfl⟩ := r2'.inv_ptr
  obtain ⟨arr, et, fr, h1, h2, h3, h4⟩ := hrel.blk bx p _ hp hbx
  obtain ⟨_, _, hs⟩ := h4 rfl
  have hs : p.s = 0 := hs rfl
  obtain ⟨mv, h5, h6⟩ := h3 0 _ rfl
  obtain ⟨pr, hpr, rfl⟩ := (VR.one h6).inv_map
  obtain ⟨es', clock, h7, h8, _, _, hwf⟩ := hrel.blk r pr _ hpr hr
  have hcell : w.cell? ⟨p.c, 0, none⟩ = some (.map (some pr.c)) := by
    rw [cell_of_row w p.c 0 arr et fr h1]
    rw [← h5, hs]
  have ha : args' = #[.func (.func 36) #[] #[.pointer (some ⟨p.c, 0, none⟩)]] := by
    apply Array.toList_inj.1
    rw [e1]
    have a1 : first' = #[] := Array.toList_inj.1 g1
    have a2 : cap' = #[.pointer (some ⟨p.c, 0 + p.s, none⟩)] := Array.toList_inj.1 e2
    rw [a1, a2, hs]
  subst ha
  have hkeys : es'.toList.map (·.key) = (es.map fun e => dint e.1).map (Value.int .i64) := by
    rw [List.map_map]
    apply List.ext_getElem?
    intro i
    rw [List.getElem?_map, List.getElem?_map]
    rcases h8.get i with ⟨a, b⟩ | ⟨a, b, c, d, rr⟩
    · rw [a, b]; rfl
    · rw [c, d]
      have := rr.key
      show some b.key = some _
      rw [this]; rfl
  have hst : MapKept.Stamped es' clock := ⟨fun x hx => hwf.1 x hx, hwf.2.1, hwf.2.2⟩
  have hsz : es'.size = es.length := by rw [← Array.length_toList, h8.1]
  have hmaxl : (1000 : Nat) ≤ maxLen := by decide
  obtain ⟨D0, ho, hperm, hDs⟩ := ownsMap_int (P := Try.prog) (k := 3) h7 Try.underlying3 hst (by omega) hkeys (fun n hn => by
    obtain ⟨e0, he0, rfl⟩ := List.mem_map.1 hn
    have := hrng e0 he0
    simp only [Lit.wf, Bool.and_eq_true, decide_eq_true_eq]
    exact this)
  have hplt : p.c < w.heap.size := (Array.getElem?_eq_some_iff.1 h1).1
  have hcall := sorted_intQ p.c pr.c es'.size D0 blankR w hplt hcell ho (by omega) (by omega)
  have hname : (callFunc 30 #[.func (.func 36) #[] #[.pointer (some ⟨p.c, 0, none⟩)]]).run Try.prog w = .ok (.enter 30 #[.func (.func 36) #[] #[.pointer (some ⟨p.c, 0, none⟩)]]) w := by
    have hn := Try.progOk.name Try.func30
    obtain ⟨c, hb⟩ : ∃ c, Try.f30.body = some c := ⟨_, rfl⟩
    simp [callFunc, Try.func30, hn, hb]
  refine .inr ⟨hname, hcall.mono ?_⟩
  rintro en w' ⟨v, ss, rfl, hS, hrow, hnil, hbel⟩
  refine ⟨v, rfl, ?_⟩
  have hss : ss.mergeSort (fun x y => decide (x ≤ y)) = sortS (fun x y => decide (x ≤ y)) (es.map fun e => dint e.1) := sortS_int (hS.trans hperm)
  rw [hss] at hrow
  have hsim := (sim_same hrel hbel).toW
  obtain ⟨_, ho | ⟨gg, cap, cur, rfl, j1, j2, j3, _, j5, j6⟩⟩ := hrow
  · have hse : ss = [] := List.length_eq_zero_iff.1 ho.2
    rw [hnil.2 hse]
    have hre : srtIQ es = [] := by
      unfold srtIQ
      rw [← hss, hse]; simp [valsOf]
    rw [hre] at hK
    exact ⟨_, h, μ, hK, cout_outQ hfree ⟨.zero (.deep .nil), sim_same hrel hbel, Nat.le_refl _, fun b hb => absurd rfl hb, Keeps.refl _ _⟩⟩
  · simp only [Nat.mul_one] at j5 j6
    have hz2 := muZ_sim (lo := 0) (hi := ss.length) hsim j2 (fun b q y hb hy _ hcc => by
      have := (hrel.blk b q y hb hy).lt
      omega) (.inl j1)
    have hlen2 : (srtIQ es).length = ss.length := by
      unfold srtIQ valsOf; rw [← hss, List.length_map, List.length_mergeSort]
    refine ⟨_, h, muZ μ gg 0 ss.length cur, hK, cout_outQ hfree ((OutG.mk ?_ hz2 (Nat.le_refl _) fun b hb => absurd rfl hb).out (Keeps.refl _ _))⟩
    have hcell2 : ∀ (i : Nat) y, (flatN zI (srtIQ es))[i]? = some y → i < ss.length ∧ cur[i]? = some y ∧ plain1 y = true := by
      intro i y hy
      rw [show flatN zI (srtIQ es) = srtIQ es from flat_vals .i64 0 _] at hy
      have hi := (List.getElem?_eq_some_iff.1 hy).1
      rw [hlen2] at hi
      refine ⟨hi, ?_, (by obtain ⟨n0, _, rfl⟩ := List.mem_map.1 (List.mem_of_getElem? hy); rfl)⟩
      rw [← Array.getElem?_toList]
      have : (srtIQ es)[i]? = (cur.toList.take ss.length)[i]? := by rw [j6]; rfl
      rw [this, List.getElem?_take, if_pos hi] at hy
      exact hy
    refine .zero (.deep (.sl (fun i => cur.getD i (.bool false)) hlen2 j3 (fun i y hy => ?_) (fun i y hy => ?_)))
    · obtain ⟨hi, hc1, _⟩ := hcell2 i y hy
      show zAdd μ.z gg 0 ss.length cur gg (0 + i) = _
      unfold zAdd
      rw [if_pos ⟨rfl, Nat.zero_le _, by omega⟩, Nat.zero_add, hc1, Array.getD_eq_getD_getElem?, hc1]; rfl
    · obtain ⟨hi, hc1, hpl⟩ := hcell2 i y hy
      rw [Array.getD_eq_getD_getElem?, hc1]
      exact .plain hpl
end Go.Proofs.Ytledddhagpgfaaa
end
section
namespace Go.Proofs.Ytledddhagpgfaaa
open Go.RowKit Go.Abs Go
noncomputable section
abbrev BS := ByteArray
/-- A query; an entry (a query, due, until), as one row of cells. -/
def zQ : Value := .agg #[.int .i64 0, .string ⟨#[]⟩, .string ⟨#[]⟩, .int .i64 0, .int .i64 0]
def zEn : Value := .agg #[.int .i64 0, .string ⟨#[]⟩, .string ⟨#[]⟩, .int .i64 0, .int .i64 0, .int .i64 0, .int .i64 0]
def cQ : Cod (Int × BS × BS × Int × Int × Unit) := cA (.cons cI64 rfl (.cons cS rfl (.cons cS rfl (.cons cI64 rfl (.cons cI64 rfl .nil)))))
structure QrF where
  rq : Int → BS → BS → Int → Int → Bool
  rrq : Int → BS → BS → Int → Int → Bool
  an : Int → BS → BS → Int → Int → Int → Ents → Int
  ae : Int → BS → BS → Int → Int → Int → Ents → Int
  aa : Int → BS → BS → Int → Int → Int → Ents → Int
  am : Int → BS → BS → Int → Int → Int → Int → Ents → Ents
  tl : Int → Ents → List Value
  tk : Int → Ents → List Value
  tm : Int → Ents → Ents
  srt : Ents → List Value
  ok : Ents → Prop
  okT : Ents → Prop
  de : Int → Ents → Int
  dm : Int → Ents → Ents
variable (S : Sy) (g : KvF) (u : QrF)
def rqP : PF := pf (.cons cQ .nil) (fun _ => True) [.bool false] fun d => [mkb (u.rq d.1.1 d.1.2.1 d.1.2.2.1 d.1.2.2.2.1 d.1.2.2.2.2.1)]
def rrqP : PF := pf (.cons cQ .nil) (fun _ => True) [.bool false] fun d => [mkb (u.rrq d.1.1 d.1.2.1 d.1.2.2.1 d.1.2.2.2.1 d.1.2.2.2.2.1)]
def regB : SB := .cells [.zero (.map 1), .zero .hole, .zero .hole, .zero .hole] false
def small (n : Int) : Prop := S.ile (-1000000) n ∧ S.ile n 1000000
/-- A query; what was added, the block, how many were late; the entries. -/
def addO : OF := ⟨[.int .i64, .str, .str, .int .i64, .int .i64, .int .i64, .int .i64, .int .i64, .me], ⟨[some (.one (.zero (.ptr 0 0))), some (.agg [.zero .hole, .zero .hole, .zero .hole, .zero .hole, .zero .hole])], [some regB, some (.smap zI zEn)]⟩,
  fun d => small S d.2.2.2.2.2.1 ∧ small S d.2.2.2.2.2.2.1, [.one (.zero .hole), .one (.zero .hole)], [some regB, some (.smap zI zEn)],
  fun d => [.val (.int .i64 (u.an d.1 d.2.1 d.2.2.1 d.2.2.2.1 d.2.2.2.2.1 d.2.2.2.2.2.1 d.2.2.2.2.2.2.2.2.1)), .val (.int .i64 (u.ae d.1 d.2.1 d.2.2.1 d.2.2.2.1 d.2.2.2.2.1 d.2.2.2.2.2.1 d.2.2.2.2.2.2.2.2.1)), .val (.int .i64 (u.aa d.1 d.2.1 d.2.2.1 d.2.2.2.1 d.2.2.2.2.1 d.2.2.2.2.2.1 d.2.2.2.2.2.2.2.2.1)), .val (.int .i64 d.2.2.2.2.2.2.1), .val (.int .i64 d.2.2.2.2.2.2.2.1), .me (u.am d.1 d.2.1 d.2.2.1 d.2.2.2.1 d.2.2.2.2.1 d.2.2.2.2.2.1 d.2.2.2.2.2.2.1 d.2.2.2.2.2.2.2.2.1)]⟩
def addCon : Con := conL [(16, pcon (rqP u))]
/-- The next block. -/
def tickO : OF := ⟨[.int .i64, .int .i64, .int .i64, .me], ⟨[some (.one (.zero (.ptr 0 0)))], [some regB, some (.smap zI zEn)]⟩,
  fun d => small S d.2.1 ∧ small S d.2.2.1 ∧ u.okT d.2.2.2.1, [.one (.zero (.deep zI)), .one (.zero (.deep zI))], [some regB, some (.smap zI zEn)],
  fun d => [.dl (u.tl d.2.1 d.2.2.2.1), .dl (u.tk d.2.1 d.2.2.2.1), .val (.int .i64 d.1), .val (.int .i64 (S.add d.2.1 1)), .val (.int .i64 (S.add d.2.2.1 (S.int (S.len (u.tl d.2.1 d.2.2.2.1))))), .me (u.tm d.2.1 d.2.2.2.1)]⟩
structure TkA where
  l : List Value
  n : Int
  i : Int
  es : Ents
def tkSh : Shape := ⟨slotsOf 134 [(0, .one (.zero (.ptr 0 0))), (2, .one (.zero (.osl 2 zI))), (3, .one (.zero (.lit (.slice none 0 0)))), (4, .one (.zero (.deep zI))), (24, .one (.zero (.deep zI))), (25, .one (.zero .hole)), (26, .one (.zero .hole))], [some regB, some (.smap zI zEn), some .tok]⟩
def tkSh2 : Shape := ⟨slotsOf 134 [(0, .one (.zero (.ptr 0 0))), (2, .one (.zero (.deep zI))), (3, .one (.zero (.osl 2 zI))), (69, .one (.zero (.deep zI))), (70, .one (.zero .hole)), (71, .one (.zero .hole))], [some regB, some (.smap zI zEn), some .tok]⟩
def tkLs (ids late : List Value) (a b l : Int) (I : TkA → Prop) (m : TkA → Nat) (J : TkA → Prop) (q : TkA → Nat) : Loops := fun id =>
  if id = 0 then some [{ D := TkA, sh := tkSh, rho := tkSh.find 0, fills := fun d => [.dl d.l, .dl ids, .dl ids, .val (.int .i64 d.n), .val (.int .i64 d.i), .val (.int .i64 a), .val (.int .i64 (S.add b 1)), .val (.int .i64 l), .me d.es], I := I, m := m }] else
  if id = 2 then some [{ D := TkA, sh := tkSh2, rho := tkSh2.find 0, fills := fun d => [.dl late, .dl d.l, .dl ids, .val (.int .i64 d.n), .val (.int .i64 d.i), .val (.int .i64 a), .val (.int .i64 (S.add b 1)), .val (.int .i64 (S.add l (S.int (S.len late)))), .me d.es], I := J, m := q }] else none
def tkCon : Con := conL [(30, sortCQ u.srt u.ok)]
def dropO : OF := ⟨[.int .i64, .int .i64, .int .i64, .int .i64, .me], ⟨[some (.one (.zero (.ptr 0 0))), some (.one (.zero .hole))], [some regB, some (.smap zI zEn)]⟩, fun _ => True, [.one (.zero .hole)], [some regB, some (.smap zI zEn)],
  fun d => [.val (.int .i64 (u.de d.1 d.2.2.2.2.1)), .val (.int .i64 d.2.1), .val (.int .i64 d.2.2.1), .val (.int .i64 d.2.2.2.1), .me (u.dm d.1 d.2.2.2.2.1)]⟩
end
end Go.Proofs.Ytledddhagpgfaaa
end
section
namespace Go.Proofs.Ytledddhagpgfaaa
open Go.Abs Go
set_option maxRecDepth 100000 in
theorem rq_vc (u : QrF) (k : Int) (key e : BS) (p d : Int) : runP std noCon 60 noL (rqP u) 16 Try.f16 ((k, key, e, p, d, ()), ()) =
  ((((std.seq key (ByteArray.mk (Array.mk []))) = true) → ([(Value.bool false)] = [(Value.bool (u.rq k key e p d))])) ∧ (((std.seq key (ByteArray.mk (Array.mk []))) = false) → ((((decide ((16 : Int) < ((std.slen key) : Int))) = true) → ([(Value.bool false)] = [(Value.bool (u.rq k key e p d))])) ∧ (((decide ((16 : Int) < ((std.slen key) : Int))) = false) → ((((decide (p < (0 : Int))) = true) → ([(Value.bool false)] = [(Value.bool (u.rq k key e p d))])) ∧ (((decide (p < (0 : Int))) = false) → ((((decide ((1000 : Int) < p)) = true) → ([(Value.bool false)] = [(Value.bool (u.rq k key e p d))])) ∧ (((decide ((1000 : Int) < p)) = false) → ((((decide (d < (1 : Int))) = true) → ([(Value.bool false)] = [(Value.bool (u.rq k key e p d))])) ∧ (((decide (d < (1 : Int))) = false) → ((((decide ((1000 : Int) < d)) = true) → ([(Value.bool false)] = [(Value.bool (u.rq k key e p d))])) ∧ (((decide ((1000 : Int) < d)) = false) → ((((k == (1 : Int)) = true) → ((((std.seq e (ByteArray.mk (Array.mk []))) = true) → ([(Value.bool true)] = [(Value.bool (u.rq k key e p d))])) ∧ (((std.seq e (ByteArray.mk (Array.mk []))) = false) → ([(Value.bool false)] = [(Value.bool (u.rq k key e p d))])))) ∧ (((k == (1 : Int)) = false) → ((((k == (2 : Int)) = true) → ((((decide (((std.slen e) : Int) ≤ (16 : Int))) = true) → ((((!(std.slt e key)) = true) → ([(Value.bool true)] = [(Value.bool (u.rq k key e p d))])) ∧ (((!(std.slt e key)) = false) → ([(Value.bool false)] = [(Value.bool (u.rq k key e p d))])))) ∧ (((decide (((std.slen e) : Int) ≤ (16 : Int))) = false) → ([(Value.bool false)] = [(Value.bool (u.rq k key e p d))])))) ∧ (((k == (2 : Int)) = false) → ([(Value.bool false)] = [(Value.bool (u.rq k key e p d))]))))))))))))))))) := by kernel_rfl
set_option maxRecDepth 100000 in
theorem add_vc (u : QrF) (k : Int) (key e : BS) (p d a b l : Int) (es : Ents) : runW std (addCon u) 60 noL (addO std u) 10 Try.f10 (k, key, e, p, d, a, b, l, es, ()) =
  (True ∧ ((((u.rq k key e p d) = true) → ((((decide ((6 : Int) ≤ ((List.length es) : Int))) = true) → ([(Filler.val (Value.int IntKind.i64 (u.an k key e p d a es))), (Filler.val (Value.int IntKind.i64 (u.ae k key e p d a es))), (Filler.val (Value.int IntKind.i64 (u.aa k key e p d a es))), (Filler.val (Value.int IntKind.i64 b)), (Filler.val (Value.int IntKind.i64 l)), (Filler.me (u.am k key e p d a b es))] = [(Filler.val (Value.int IntKind.i64 (0 : Int))), (Filler.val (Value.int IntKind.i64 (7 : Int))), (Filler.val (Value.int IntKind.i64 a)), (Filler.val (Value.int IntKind.i64 b)), (Filler.val (Value.int IntKind.i64 l)), (Filler.me es)])) ∧ (((decide ((6 : Int) ≤ ((List.length es) : Int))) = false) → ((((-9223372036854775808 : Int) ≤ (a + (1 : Int))) ∧ ((a + (1 : Int)) ≤ (9223372036854775807 : Int))) ∧ ((((-9223372036854775808 : Int) ≤ (b + (1 : Int))) ∧ ((b + (1 : Int)) ≤ (9223372036854775807 : Int))) ∧ ([(Filler.val (Value.int IntKind.i64 (u.an k key e p d a es))), (Filler.val (Value.int IntKind.i64 (u.ae k key e p d a es))), (Filler.val (Value.int IntKind.i64 (u.aa k key e p d a es))), (Filler.val (Value.int IntKind.i64 b)), (Filler.val (Value.int IntKind.i64 l)), (Filler.me (u.am k key e p d a b es))] = [(Filler.val (Value.int IntKind.i64 (a + (1 : Int)))), (Filler.val (Value.int IntKind.i64 (0 : Int))), (Filler.val (Value.int IntKind.i64 (a + (1 : Int)))), (Filler.val (Value.int IntKind.i64 b)), (Filler.val (Value.int IntKind.i64 l)), (Filler.me (std.mput (Value.int IntKind.i64 (0 : Int)) es (Value.int IntKind.i64 (a + (1 : Int))) (Value.agg (Array.mk [(Value.int IntKind.i64 k), (Value.string key), (Value.string e), (Value.int IntKind.i64 p), (Value.int IntKind.i64 d), (Value.int IntKind.i64 (b + (1 : Int))), (Value.int IntKind.i64 (0 : Int))]))))])))))) ∧ (((u.rq k key e p d) = false) → ([(Filler.val (Value.int IntKind.i64 (u.an k key e p d a es))), (Filler.val (Value.int IntKind.i64 (u.ae k key e p d a es))), (Filler.val (Value.int IntKind.i64 (u.aa k key e p d a es))), (Filler.val (Value.int IntKind.i64 b)), (Filler.val (Value.int IntKind.i64 l)), (Filler.me (u.am k key e p d a b es))] = [(Filler.val (Value.int IntKind.i64 (0 : Int))), (Filler.val (Value.int IntKind.i64 (1 : Int))), (Filler.val (Value.int IntKind.i64 a)), (Filler.val (Value.int IntKind.i64 b)), (Filler.val (Value.int IntKind.i64 l)), (Filler.me es)])))) := by kernel_rfl
def tick_vc_L1 (u : QrF) (a : Int) (b : Int) (l : Int) (es : Ents) (ids : List Value) (late : List Value) (J : TkA → Prop) (q : TkA → Nat) (d14 : TkA) : Prop :=
  (∃ (d17 : TkA), (([(Filler.dl late), (Filler.dl (d17.l)), (Filler.dl ids), (Filler.val (Value.int IntKind.i64 (d17.n))), (Filler.val (Value.int IntKind.i64 (d17.i))), (Filler.val (Value.int IntKind.i64 a)), (Filler.val (Value.int IntKind.i64 (b + (1 : Int)))), (Filler.val (Value.int IntKind.i64 (l + ((List.length late) : Int)))), (Filler.me (d17.es))] = [(Filler.dl (d14.l)), (Filler.dl []), (Filler.dl ids), (Filler.val (Value.int IntKind.i64 ((List.length ids) : Int))), (Filler.val (Value.int IntKind.i64 (0 : Int))), (Filler.val (Value.int IntKind.i64 a)), (Filler.val (Value.int IntKind.i64 (b + (1 : Int)))), (Filler.val (Value.int IntKind.i64 (l + ((List.length (d14.l)) : Int)))), (Filler.me (d14.es))]) ∧ ((J d17) ∧ (∀ (d18 : TkA), ((J d18) → ((((decide ((d18.i) < (d18.n))) = true) → ((((0 : Int) ≤ (d18.i)) ∧ ((d18.i) < ((List.length ids) : Int))) ∧ (((((std.dint (std.fld (std.mget (Value.int IntKind.i64 (0 : Int)) zEn (d18.es) (Value.int IntKind.i64 (eI ids (Int.toNat (d18.i))))) 5)) == (0 : Int)) = true) → ((((-9223372036854775808 : Int) ≤ ((d18.i) + (1 : Int))) ∧ (((d18.i) + (1 : Int)) ≤ (9223372036854775807 : Int))) ∧ (∃ (d22 : TkA), (([(Filler.dl late), (Filler.dl (d22.l)), (Filler.dl ids), (Filler.val (Value.int IntKind.i64 (d22.n))), (Filler.val (Value.int IntKind.i64 (d22.i))), (Filler.val (Value.int IntKind.i64 a)), (Filler.val (Value.int IntKind.i64 (b + (1 : Int)))), (Filler.val (Value.int IntKind.i64 (l + ((List.length late) : Int)))), (Filler.me (d22.es))] = [(Filler.dl late), (Filler.dl (d18.l)), (Filler.dl ids), (Filler.val (Value.int IntKind.i64 (d18.n))), (Filler.val (Value.int IntKind.i64 ((d18.i) + (1 : Int)))), (Filler.val (Value.int IntKind.i64 a)), (Filler.val (Value.int IntKind.i64 (b + (1 : Int)))), (Filler.val (Value.int IntKind.i64 (l + ((List.length late) : Int)))), (Filler.me (d18.es))]) ∧ ((Nat.le (Nat.succ (q d22)) (q d18)) ∧ (J d22)))))) ∧ ((((std.dint (std.fld (std.mget (Value.int IntKind.i64 (0 : Int)) zEn (d18.es) (Value.int IntKind.i64 (eI ids (Int.toNat (d18.i))))) 5)) == (0 : Int)) = false) → ((((decide ((b + (1 : Int)) < (std.dint (std.fld (std.mget (Value.int IntKind.i64 (0 : Int)) zEn (d18.es) (Value.int IntKind.i64 (eI ids (Int.toNat (d18.i))))) 5)))) = true) → ((((-9223372036854775808 : Int) ≤ ((d18.i) + (1 : Int))) ∧ (((d18.i) + (1 : Int)) ≤ (9223372036854775807 : Int))) ∧ (∃ (d23 : TkA), (([(Filler.dl late), (Filler.dl (d23.l)), (Filler.dl ids), (Filler.val (Value.int IntKind.i64 (d23.n))), (Filler.val (Value.int IntKind.i64 (d23.i))), (Filler.val (Value.int IntKind.i64 a)), (Filler.val (Value.int IntKind.i64 (b + (1 : Int)))), (Filler.val (Value.int IntKind.i64 (l + ((List.length late) : Int)))), (Filler.me (d23.es))] = [(Filler.dl late), (Filler.dl (d18.l)), (Filler.dl ids), (Filler.val (Value.int IntKind.i64 (d18.n))), (Filler.val (Value.int IntKind.i64 ((d18.i) + (1 : Int)))), (Filler.val (Value.int IntKind.i64 a)), (Filler.val (Value.int IntKind.i64 (b + (1 : Int)))), (Filler.val (Value.int IntKind.i64 (l + ((List.length late) : Int)))), (Filler.me (d18.es))]) ∧ ((Nat.le (Nat.succ (q d23)) (q d18)) ∧ (J d23)))))) ∧ (((decide ((b + (1 : Int)) < (std.dint (std.fld (std.mget (Value.int IntKind.i64 (0 : Int)) zEn (d18.es) (Value.int IntKind.i64 (eI ids (Int.toNat (d18.i))))) 5)))) = false) → ((((decide ((0 : Int) < (std.dint (std.fld (std.mget (Value.int IntKind.i64 (0 : Int)) zEn (d18.es) (Value.int IntKind.i64 (eI ids (Int.toNat (d18.i))))) 6)))) = true) → ((((-9223372036854775808 : Int) ≤ ((d18.i) + (1 : Int))) ∧ (((d18.i) + (1 : Int)) ≤ (9223372036854775807 : Int))) ∧ (∃ (d24 : TkA), (([(Filler.dl late), (Filler.dl (d24.l)), (Filler.dl ids), (Filler.val (Value.int IntKind.i64 (d24.n))), (Filler.val (Value.int IntKind.i64 (d24.i))), (Filler.val (Value.int IntKind.i64 a)), (Filler.val (Value.int IntKind.i64 (b + (1 : Int)))), (Filler.val (Value.int IntKind.i64 (l + ((List.length late) : Int)))), (Filler.me (d24.es))] = [(Filler.dl late), (Filler.dl (d18.l)), (Filler.dl ids), (Filler.val (Value.int IntKind.i64 (d18.n))), (Filler.val (Value.int IntKind.i64 ((d18.i) + (1 : Int)))), (Filler.val (Value.int IntKind.i64 a)), (Filler.val (Value.int IntKind.i64 (b + (1 : Int)))), (Filler.val (Value.int IntKind.i64 (l + ((List.length late) : Int)))), (Filler.me (d18.es))]) ∧ ((Nat.le (Nat.succ (q d24)) (q d18)) ∧ (J d24)))))) ∧ (((decide ((0 : Int) < (std.dint (std.fld (std.mget (Value.int IntKind.i64 (0 : Int)) zEn (d18.es) (Value.int IntKind.i64 (eI ids (Int.toNat (d18.i))))) 6)))) = false) → ((((-9223372036854775808 : Int) ≤ ((b + (1 : Int)) + (std.dint (std.fld (std.mget (Value.int IntKind.i64 (0 : Int)) zEn (d18.es) (Value.int IntKind.i64 (eI ids (Int.toNat (d18.i))))) 4)))) ∧ (((b + (1 : Int)) + (std.dint (std.fld (std.mget (Value.int IntKind.i64 (0 : Int)) zEn (d18.es) (Value.int IntKind.i64 (eI ids (Int.toNat (d18.i))))) 4))) ≤ (9223372036854775807 : Int))) ∧ ((((decide ((0 : Int) < (std.dint (std.fld (std.mget (Value.int IntKind.i64 (0 : Int)) zEn (d18.es) (Value.int IntKind.i64 (eI ids (Int.toNat (d18.i))))) 3)))) = true) → ((((-9223372036854775808 : Int) ≤ ((b + (1 : Int)) + (std.dint (std.fld (std.mget (Value.int IntKind.i64 (0 : Int)) zEn (d18.es) (Value.int IntKind.i64 (eI ids (Int.toNat (d18.i))))) 3)))) ∧ (((b + (1 : Int)) + (std.dint (std.fld (std.mget (Value.int IntKind.i64 (0 : Int)) zEn (d18.es) (Value.int IntKind.i64 (eI ids (Int.toNat (d18.i))))) 3))) ≤ (9223372036854775807 : Int))) ∧ ((((List.length ((d18.l) ++ [(Value.int IntKind.i64 (eI ids (Int.toNat (d18.i))))])) * 8) ≤ 140737488355328) ∧ ((((-9223372036854775808 : Int) ≤ ((d18.i) + (1 : Int))) ∧ (((d18.i) + (1 : Int)) ≤ (9223372036854775807 : Int))) ∧ (∃ (d25 : TkA), (([(Filler.dl late), (Filler.dl (d25.l)), (Filler.dl ids), (Filler.val (Value.int IntKind.i64 (d25.n))), (Filler.val (Value.int IntKind.i64 (d25.i))), (Filler.val (Value.int IntKind.i64 a)), (Filler.val (Value.int IntKind.i64 (b + (1 : Int)))), (Filler.val (Value.int IntKind.i64 (l + ((List.length late) : Int)))), (Filler.me (d25.es))] = [(Filler.dl late), (Filler.dl ((d18.l) ++ [(Value.int IntKind.i64 (eI ids (Int.toNat (d18.i))))])), (Filler.dl ids), (Filler.val (Value.int IntKind.i64 (d18.n))), (Filler.val (Value.int IntKind.i64 ((d18.i) + (1 : Int)))), (Filler.val (Value.int IntKind.i64 a)), (Filler.val (Value.int IntKind.i64 (b + (1 : Int)))), (Filler.val (Value.int IntKind.i64 (l + ((List.length late) : Int)))), (Filler.me (std.mput (Value.int IntKind.i64 (0 : Int)) (d18.es) (Value.int IntKind.i64 (eI ids (Int.toNat (d18.i)))) (Value.agg (Array.mk [(Value.int IntKind.i64 (std.dint (std.fld (std.mget (Value.int IntKind.i64 (0 : Int)) zEn (d18.es) (Value.int IntKind.i64 (eI ids (Int.toNat (d18.i))))) 0))), (Value.string (std.dstr (std.fld (std.mget (Value.int IntKind.i64 (0 : Int)) zEn (d18.es) (Value.int IntKind.i64 (eI ids (Int.toNat (d18.i))))) 1))), (Value.string (std.dstr (std.fld (std.mget (Value.int IntKind.i64 (0 : Int)) zEn (d18.es) (Value.int IntKind.i64 (eI ids (Int.toNat (d18.i))))) 2))), (Value.int IntKind.i64 (std.dint (std.fld (std.mget (Value.int IntKind.i64 (0 : Int)) zEn (d18.es) (Value.int IntKind.i64 (eI ids (Int.toNat (d18.i))))) 3))), (Value.int IntKind.i64 (std.dint (std.fld (std.mget (Value.int IntKind.i64 (0 : Int)) zEn (d18.es) (Value.int IntKind.i64 (eI ids (Int.toNat (d18.i))))) 4))), (Value.int IntKind.i64 ((b + (1 : Int)) + (std.dint (std.fld (std.mget (Value.int IntKind.i64 (0 : Int)) zEn (d18.es) (Value.int IntKind.i64 (eI ids (Int.toNat (d18.i))))) 3)))), (Value.int IntKind.i64 ((b + (1 : Int)) + (std.dint (std.fld (std.mget (Value.int IntKind.i64 (0 : Int)) zEn (d18.es) (Value.int IntKind.i64 (eI ids (Int.toNat (d18.i))))) 4))))]))))]) ∧ ((Nat.le (Nat.succ (q d25)) (q d18)) ∧ (J d25)))))))) ∧ (((decide ((0 : Int) < (std.dint (std.fld (std.mget (Value.int IntKind.i64 (0 : Int)) zEn (d18.es) (Value.int IntKind.i64 (eI ids (Int.toNat (d18.i))))) 3)))) = false) → ((((List.length ((d18.l) ++ [(Value.int IntKind.i64 (eI ids (Int.toNat (d18.i))))])) * 8) ≤ 140737488355328) ∧ ((((-9223372036854775808 : Int) ≤ ((d18.i) + (1 : Int))) ∧ (((d18.i) + (1 : Int)) ≤ (9223372036854775807 : Int))) ∧ (∃ (d25 : TkA), (([(Filler.dl late), (Filler.dl (d25.l)), (Filler.dl ids), (Filler.val (Value.int IntKind.i64 (d25.n))), (Filler.val (Value.int IntKind.i64 (d25.i))), (Filler.val (Value.int IntKind.i64 a)), (Filler.val (Value.int IntKind.i64 (b + (1 : Int)))), (Filler.val (Value.int IntKind.i64 (l + ((List.length late) : Int)))), (Filler.me (d25.es))] = [(Filler.dl late), (Filler.dl ((d18.l) ++ [(Value.int IntKind.i64 (eI ids (Int.toNat (d18.i))))])), (Filler.dl ids), (Filler.val (Value.int IntKind.i64 (d18.n))), (Filler.val (Value.int IntKind.i64 ((d18.i) + (1 : Int)))), (Filler.val (Value.int IntKind.i64 a)), (Filler.val (Value.int IntKind.i64 (b + (1 : Int)))), (Filler.val (Value.int IntKind.i64 (l + ((List.length late) : Int)))), (Filler.me (std.mput (Value.int IntKind.i64 (0 : Int)) (d18.es) (Value.int IntKind.i64 (eI ids (Int.toNat (d18.i)))) (Value.agg (Array.mk [(Value.int IntKind.i64 (std.dint (std.fld (std.mget (Value.int IntKind.i64 (0 : Int)) zEn (d18.es) (Value.int IntKind.i64 (eI ids (Int.toNat (d18.i))))) 0))), (Value.string (std.dstr (std.fld (std.mget (Value.int IntKind.i64 (0 : Int)) zEn (d18.es) (Value.int IntKind.i64 (eI ids (Int.toNat (d18.i))))) 1))), (Value.string (std.dstr (std.fld (std.mget (Value.int IntKind.i64 (0 : Int)) zEn (d18.es) (Value.int IntKind.i64 (eI ids (Int.toNat (d18.i))))) 2))), (Value.int IntKind.i64 (std.dint (std.fld (std.mget (Value.int IntKind.i64 (0 : Int)) zEn (d18.es) (Value.int IntKind.i64 (eI ids (Int.toNat (d18.i))))) 3))), (Value.int IntKind.i64 (std.dint (std.fld (std.mget (Value.int IntKind.i64 (0 : Int)) zEn (d18.es) (Value.int IntKind.i64 (eI ids (Int.toNat (d18.i))))) 4))), (Value.int IntKind.i64 (0 : Int)), (Value.int IntKind.i64 ((b + (1 : Int)) + (std.dint (std.fld (std.mget (Value.int IntKind.i64 (0 : Int)) zEn (d18.es) (Value.int IntKind.i64 (eI ids (Int.toNat (d18.i))))) 4))))]))))]) ∧ ((Nat.le (Nat.succ (q d25)) (q d18)) ∧ (J d25))))))))))))))))) ∧ (((decide ((d18.i) < (d18.n))) = false) → ([(Filler.dl (u.tl b es)), (Filler.dl (u.tk b es)), (Filler.val (Value.int IntKind.i64 a)), (Filler.val (Value.int IntKind.i64 (b + (1 : Int)))), (Filler.val (Value.int IntKind.i64 (l + ((List.length (u.tl b es)) : Int)))), (Filler.me (u.tm b es))] = [(Filler.dl late), (Filler.dl (d18.l)), (Filler.val (Value.int IntKind.i64 a)), (Filler.val (Value.int IntKind.i64 (b + (1 : Int)))), (Filler.val (Value.int IntKind.i64 (l + ((List.length late) : Int)))), (Filler.me (d18.es))]))))))))
def tick_vc_L2 (u : QrF) (a : Int) (b : Int) (l : Int) (es : Ents) (ids : List Value) (late : List Value) (I : TkA → Prop) (m : TkA → Nat) (J : TkA → Prop) (q : TkA → Nat) : Prop :=
  (∃ (d13 : TkA), (([(Filler.dl (d13.l)), (Filler.dl ids), (Filler.dl ids), (Filler.val (Value.int IntKind.i64 (d13.n))), (Filler.val (Value.int IntKind.i64 (d13.i))), (Filler.val (Value.int IntKind.i64 a)), (Filler.val (Value.int IntKind.i64 (b + (1 : Int)))), (Filler.val (Value.int IntKind.i64 l)), (Filler.me (d13.es))] = [(Filler.dl []), (Filler.dl (u.srt es)), (Filler.dl (u.srt es)), (Filler.val (Value.int IntKind.i64 ((List.length (u.srt es)) : Int))), (Filler.val (Value.int IntKind.i64 (0 : Int))), (Filler.val (Value.int IntKind.i64 a)), (Filler.val (Value.int IntKind.i64 (b + (1 : Int)))), (Filler.val (Value.int IntKind.i64 l)), (Filler.me es)]) ∧ ((I d13) ∧ (∀ (d14 : TkA), ((I d14) → ((((decide ((d14.i) < (d14.n))) = true) → ((((0 : Int) ≤ (d14.i)) ∧ ((d14.i) < ((List.length ids) : Int))) ∧ ((((decide ((0 : Int) < (std.dint (std.fld (std.mget (Value.int IntKind.i64 (0 : Int)) zEn (d14.es) (Value.int IntKind.i64 (eI ids (Int.toNat (d14.i))))) 6)))) = true) → ((((decide ((std.dint (std.fld (std.mget (Value.int IntKind.i64 (0 : Int)) zEn (d14.es) (Value.int IntKind.i64 (eI ids (Int.toNat (d14.i))))) 6)) < (b + (1 : Int)))) = true) → ((((List.length ((d14.l) ++ [(Value.int IntKind.i64 (eI ids (Int.toNat (d14.i))))])) * 8) ≤ 140737488355328) ∧ ((((-9223372036854775808 : Int) ≤ ((d14.i) + (1 : Int))) ∧ (((d14.i) + (1 : Int)) ≤ (9223372036854775807 : Int))) ∧ (∃ (d19 : TkA), (([(Filler.dl (d19.l)), (Filler.dl ids), (Filler.dl ids), (Filler.val (Value.int IntKind.i64 (d19.n))), (Filler.val (Value.int IntKind.i64 (d19.i))), (Filler.val (Value.int IntKind.i64 a)), (Filler.val (Value.int IntKind.i64 (b + (1 : Int)))), (Filler.val (Value.int IntKind.i64 l)), (Filler.me (d19.es))] = [(Filler.dl ((d14.l) ++ [(Value.int IntKind.i64 (eI ids (Int.toNat (d14.i))))])), (Filler.dl ids), (Filler.dl ids), (Filler.val (Value.int IntKind.i64 (d14.n))), (Filler.val (Value.int IntKind.i64 ((d14.i) + (1 : Int)))), (Filler.val (Value.int IntKind.i64 a)), (Filler.val (Value.int IntKind.i64 (b + (1 : Int)))), (Filler.val (Value.int IntKind.i64 l)), (Filler.me (std.mput (Value.int IntKind.i64 (0 : Int)) (d14.es) (Value.int IntKind.i64 (eI ids (Int.toNat (d14.i)))) (Value.agg (Array.mk [(Value.int IntKind.i64 (std.dint (std.fld (std.mget (Value.int IntKind.i64 (0 : Int)) zEn (d14.es) (Value.int IntKind.i64 (eI ids (Int.toNat (d14.i))))) 0))), (Value.string (std.dstr (std.fld (std.mget (Value.int IntKind.i64 (0 : Int)) zEn (d14.es) (Value.int IntKind.i64 (eI ids (Int.toNat (d14.i))))) 1))), (Value.string (std.dstr (std.fld (std.mget (Value.int IntKind.i64 (0 : Int)) zEn (d14.es) (Value.int IntKind.i64 (eI ids (Int.toNat (d14.i))))) 2))), (Value.int IntKind.i64 (std.dint (std.fld (std.mget (Value.int IntKind.i64 (0 : Int)) zEn (d14.es) (Value.int IntKind.i64 (eI ids (Int.toNat (d14.i))))) 3))), (Value.int IntKind.i64 (std.dint (std.fld (std.mget (Value.int IntKind.i64 (0 : Int)) zEn (d14.es) (Value.int IntKind.i64 (eI ids (Int.toNat (d14.i))))) 4))), (Value.int IntKind.i64 (std.dint (std.fld (std.mget (Value.int IntKind.i64 (0 : Int)) zEn (d14.es) (Value.int IntKind.i64 (eI ids (Int.toNat (d14.i))))) 5))), (Value.int IntKind.i64 (0 : Int))]))))]) ∧ ((Nat.le (Nat.succ (m d19)) (m d14)) ∧ (I d19))))))) ∧ (((decide ((std.dint (std.fld (std.mget (Value.int IntKind.i64 (0 : Int)) zEn (d14.es) (Value.int IntKind.i64 (eI ids (Int.toNat (d14.i))))) 6)) < (b + (1 : Int)))) = false) → ((((-9223372036854775808 : Int) ≤ ((d14.i) + (1 : Int))) ∧ (((d14.i) + (1 : Int)) ≤ (9223372036854775807 : Int))) ∧ (∃ (d19 : TkA), (([(Filler.dl (d19.l)), (Filler.dl ids), (Filler.dl ids), (Filler.val (Value.int IntKind.i64 (d19.n))), (Filler.val (Value.int IntKind.i64 (d19.i))), (Filler.val (Value.int IntKind.i64 a)), (Filler.val (Value.int IntKind.i64 (b + (1 : Int)))), (Filler.val (Value.int IntKind.i64 l)), (Filler.me (d19.es))] = [(Filler.dl (d14.l)), (Filler.dl ids), (Filler.dl ids), (Filler.val (Value.int IntKind.i64 (d14.n))), (Filler.val (Value.int IntKind.i64 ((d14.i) + (1 : Int)))), (Filler.val (Value.int IntKind.i64 a)), (Filler.val (Value.int IntKind.i64 (b + (1 : Int)))), (Filler.val (Value.int IntKind.i64 l)), (Filler.me (d14.es))]) ∧ ((Nat.le (Nat.succ (m d19)) (m d14)) ∧ (I d19)))))))) ∧ (((decide ((0 : Int) < (std.dint (std.fld (std.mget (Value.int IntKind.i64 (0 : Int)) zEn (d14.es) (Value.int IntKind.i64 (eI ids (Int.toNat (d14.i))))) 6)))) = false) → ((((-9223372036854775808 : Int) ≤ ((d14.i) + (1 : Int))) ∧ (((d14.i) + (1 : Int)) ≤ (9223372036854775807 : Int))) ∧ (∃ (d18 : TkA), (([(Filler.dl (d18.l)), (Filler.dl ids), (Filler.dl ids), (Filler.val (Value.int IntKind.i64 (d18.n))), (Filler.val (Value.int IntKind.i64 (d18.i))), (Filler.val (Value.int IntKind.i64 a)), (Filler.val (Value.int IntKind.i64 (b + (1 : Int)))), (Filler.val (Value.int IntKind.i64 l)), (Filler.me (d18.es))] = [(Filler.dl (d14.l)), (Filler.dl ids), (Filler.dl ids), (Filler.val (Value.int IntKind.i64 (d14.n))), (Filler.val (Value.int IntKind.i64 ((d14.i) + (1 : Int)))), (Filler.val (Value.int IntKind.i64 a)), (Filler.val (Value.int IntKind.i64 (b + (1 : Int)))), (Filler.val (Value.int IntKind.i64 l)), (Filler.me (d14.es))]) ∧ ((Nat.le (Nat.succ (m d18)) (m d14)) ∧ (I d18))))))))) ∧ (((decide ((d14.i) < (d14.n))) = false) → ((((-9223372036854775808 : Int) ≤ (l + ((List.length (d14.l)) : Int))) ∧ ((l + ((List.length (d14.l)) : Int)) ≤ (9223372036854775807 : Int))) ∧ (tick_vc_L1 u a b l es ids late J q d14)))))))))
set_option maxRecDepth 100000 in
theorem tick_vc (u : QrF) (a b l : Int) (es : Ents) (ids late : List Value) (I : TkA → Prop) (m : TkA → Nat) (J : TkA → Prop) (q : TkA → Nat) : runW std (tkCon u) 60 (tkLs std ids late a b l I m J q) (tickO std u) 11 Try.f11 (a, b, l, es, ()) =
  ((((-9223372036854775808 : Int) ≤ (b + (1 : Int))) ∧ ((b + (1 : Int)) ≤ (9223372036854775807 : Int))) ∧ ((u.ok es) ∧ (tick_vc_L2 u a b l es ids late I m J q))) := by kernel_rfl
set_option maxRecDepth 100000 in
theorem drop_vc (u : QrF) (id a b l : Int) (es : Ents) : runW std noCon 60 noL (dropO u) 20 Try.f20 (id, a, b, l, es, ()) =
  ((((std.mhas (Value.int IntKind.i64 (0 : Int)) es (Value.int IntKind.i64 id)) = true) → ([(Filler.val (Value.int IntKind.i64 (u.de id es))), (Filler.val (Value.int IntKind.i64 a)), (Filler.val (Value.int IntKind.i64 b)), (Filler.val (Value.int IntKind.i64 l)), (Filler.me (u.dm id es))] = [(Filler.val (Value.int IntKind.i64 (0 : Int))), (Filler.val (Value.int IntKind.i64 a)), (Filler.val (Value.int IntKind.i64 b)), (Filler.val (Value.int IntKind.i64 l)), (Filler.me (std.mdel (Value.int IntKind.i64 (0 : Int)) es (Value.int IntKind.i64 id)))])) ∧ (((std.mhas (Value.int IntKind.i64 (0 : Int)) es (Value.int IntKind.i64 id)) = false) → ([(Filler.val (Value.int IntKind.i64 (u.de id es))), (Filler.val (Value.int IntKind.i64 a)), (Filler.val (Value.int IntKind.i64 b)), (Filler.val (Value.int IntKind.i64 l)), (Filler.me (u.dm id es))] = [(Filler.val (Value.int IntKind.i64 (3 : Int))), (Filler.val (Value.int IntKind.i64 a)), (Filler.val (Value.int IntKind.i64 b)), (Filler.val (Value.int IntKind.i64 l)), (Filler.me es)]))) := by kernel_rfl
end Go.Proofs.Ytledddhagpgfaaa
end
section
namespace Go.Proofs.Ytledddhagpgfaaa
open Go.RowKit Go.Abs Go
set_option maxRecDepth 100000
section
variable {τ : Type}
def kJ (q : Int) : Value := .int .i64 q
abbrev AM (τ : Type) := List (Int × τ)
def fndM : AM τ → Int → Option τ
  | [], _ => none
  | a :: r, q => if a.1 = q then some a.2 else fndM r q
def putM : AM τ → Int → τ → AM τ
  | [], q, t => [(q, t)]
  | a :: r, q, t => if a.1 = q then (q, t) :: r else a :: putM r q t
def delM : AM τ → Int → AM τ
  | [], _ => []
  | a :: r, q => if a.1 = q then r else a :: delM r q
def imgM (f : Int → τ → Value) (A : AM τ) : Ents := A.map fun a => (kJ a.1, f a.1 a.2)
theorem mkey_b (a b : Int) : keyB zI (kJ a) (kJ b) = decide (a = b) := by
  show (a == b) = _
  by_cases e : a = b
  · rw [e, decide_eq_true rfl]; exact beq_self_eq_true b
  · rw [decide_eq_false e]; simpa using e
theorem mfind_img (f : Int → τ → Value) (q : Int) : ∀ A : AM τ, mfind zI (imgM f A) (kJ q) = (fndM A q).map (f q)
  | [] => rfl
  | a :: r => by
    show mfind zI ((kJ a.1, f a.1 a.2) :: imgM f r) (kJ q) = _
    unfold mfind fndM
    rw [mkey_b]
    by_cases e : a.1 = q
    · rw [if_pos (by simp [e]), if_pos e, ← e]; rfl
    · rw [if_neg (by simp [e]), if_neg e, mfind_img f q r]
theorem mput_img (f : Int → τ → Value) (q : Int) (t : τ) : ∀ A : AM τ, mput zI (imgM f A) (kJ q) (f q t) = imgM f (putM A q t)
  | [] => rfl
  | a :: r => by
    show mput zI ((kJ a.1, f a.1 a.2) :: imgM f r) (kJ q) (f q t) = _
    unfold mput putM
    rw [mkey_b]
    by_cases e : a.1 = q
    · rw [if_pos (by simp [e]), if_pos e] <;> rfl
    · rw [if_neg (by simp [e]), if_neg e]; show (_ :: mput zI (imgM f r) (kJ q) (f q t)) = _; rw [mput_img f q t r]; rfl
theorem mdel_img (f : Int → τ → Value) (q : Int) : ∀ A : AM τ, mdel zI (imgM f A) (kJ q) = imgM f (delM A q)
  | [] => rfl
  | a :: r => by
    show mdel zI ((kJ a.1, f a.1 a.2) :: imgM f r) (kJ q) = _
    unfold mdel delM
    rw [mkey_b]
    by_cases e : a.1 = q
    · rw [if_pos (by simp [e]), if_pos e] <;> rfl
    · rw [if_neg (by simp [e]), if_neg e]; show (_ :: mdel zI (imgM f r) (kJ q)) = _; rw [mdel_img f q r]; rfl
theorem mhas_img (f : Int → τ → Value) (q : Int) (A : AM τ) : mhas zI (imgM f A) (kJ q) = (fndM A q).isSome := by
  unfold mhas
  rw [mfind_img]
  cases fndM A q <;> rfl
theorem mget_img (f : Int → τ → Value) (vz : Value) (q : Int) (A : AM τ) : mget zI vz (imgM f A) (kJ q) = match fndM A q with | some t => f q t | none => vz := by
  unfold mget
  rw [mfind_img]
  cases fndM A q <;> rfl
theorem mlen_img (f : Int → τ → Value) (A : AM τ) : (imgM f A).length = A.length := List.length_map ..
theorem mfnd_mem {A : AM τ} {q : Int} {t : τ} (h : fndM A q = some t) : (q, t) ∈ A := by
  induction A with
  | nil => cases h
  | cons a r ih =>
    unfold fndM at h
    split at h
    · rename_i e
      cases h
      rw [← e]; exact List.mem_cons_self
    · exact List.mem_cons_of_mem _ (ih h)
theorem mput_mem {A : AM τ} {q : Int} {t : τ} (hn : (A.map Prod.fst).Nodup) : ((putM A q t).map Prod.fst).Nodup ∧ ∀ a ∈ putM A q t, a = (q, t) ∨ (a ∈ A ∧ a.1 ≠ q) := by
  induction A with
  | nil => exact ⟨by simp [putM], fun a ha => .inl (by simpa [putM] using ha)⟩
  | cons x r ih =>
    rw [List.map_cons, List.nodup_cons] at hn
    obtain ⟨i1, i2⟩ := ih hn.2
    unfold putM
    split
    · rename_i e
      refine ⟨by rw [List.map_cons, List.nodup_cons]; exact ⟨by rw [← e]; exact hn.1, hn.2⟩, fun a ha => ?_⟩
      rcases List.mem_cons.1 ha with rfl | ha
      · exact .inl rfl
      · refine .inr ⟨List.mem_cons_of_mem _ ha, fun h => hn.1 ?_⟩
        rw [e, ← h]; exact List.mem_map_of_mem ha
    · rename_i e
      refine ⟨?_, fun a ha => ?_⟩
      · rw [List.map_cons, List.nodup_cons]
        refine ⟨fun h => ?_, i1⟩
        obtain ⟨y, hy, hye⟩ := List.mem_map.1 h
        rcases i2 y hy with rfl | ⟨h2, _⟩
        · exact e hye.symm
        · exact hn.1 (by rw [← hye]; exact List.mem_map_of_mem h2)
      · rcases List.mem_cons.1 ha with rfl | ha
        · exact .inr ⟨List.mem_cons_self, e⟩
        · rcases i2 a ha with h | ⟨h1, h2⟩
          · exact .inl h
          · exact .inr ⟨List.mem_cons_of_mem _ h1, h2⟩
theorem mdel_mem {A : AM τ} {q : Int} (hn : (A.map Prod.fst).Nodup) : ((delM A q).map Prod.fst).Nodup ∧ ∀ a ∈ delM A q, a ∈ A := by
  induction A with
  | nil => exact ⟨by simp [delM], fun a ha => by simp [delM] at ha⟩
  | cons x r ih =>
    rw [List.map_cons, List.nodup_cons] at hn
    obtain ⟨i1, i2⟩ := ih hn.2
    unfold delM
    split
    · exact ⟨hn.2, fun a ha => List.mem_cons_of_mem _ ha⟩
    · refine ⟨?_, fun a ha => ?_⟩
      · rw [List.map_cons, List.nodup_cons]
        refine ⟨fun h => ?_, i1⟩
        obtain ⟨y, hy, hye⟩ := List.mem_map.1 h
        exact hn.1 (by rw [← hye]; exact List.mem_map_of_mem (i2 y hy))
      · rcases List.mem_cons.1 ha with rfl | ha
        · exact List.mem_cons_self
        · exact List.mem_cons_of_mem _ (i2 a ha)
theorem mput_len (A : AM τ) (q : Int) (t : τ) : (putM A q t).length ≤ A.length + 1 := by
  induction A with
  | nil => exact Nat.le_refl _
  | cons x r ih =>
    unfold putM
    split
    · show r.length + 1 ≤ r.length + 1 + 1; omega
    · show (putM r q t).length + 1 ≤ r.length + 1 + 1; omega
theorem mput_len_in {A : AM τ} {q : Int} {t t0 : τ} (h : fndM A q = some t0) : (putM A q t).length = A.length := by
  induction A with
  | nil => cases h
  | cons x r ih =>
    unfold fndM at h
    unfold putM
    split at h
    · rename_i e; rw [if_pos e] <;> rfl
    · rename_i e; rw [if_neg e]; show (putM r q t).length + 1 = r.length + 1; rw [ih h]
/-- Numbers by number: the last block. -/
theorem mfind_put (q q' : Int) (v : Value) : ∀ w : Ents, (∀ e ∈ w, ∃ n, e.1 = kJ n) → mfind zI (mput zI w (kJ q) v) (kJ q') = if q = q' then some v else mfind zI w (kJ q')
  | [], _ => by
    unfold mput mfind
    rw [mkey_b]
    by_cases e : q = q'
    · rw [if_pos (by simp [e]), if_pos e]
    · rw [if_neg (by simp [e]), if_neg e]; rfl
  | e :: r, h => by
    obtain ⟨n, hn⟩ := h e List.mem_cons_self
    obtain ⟨k, x⟩ := e
    simp only at hn
    subst hn
    unfold mput
    rw [mkey_b]
    by_cases e1 : n = q
    · rw [if_pos (by simp [e1])]
      unfold mfind
      rw [mkey_b, mkey_b]
      by_cases e2 : q = q'
      · rw [if_pos (by simp [e2]), if_pos e2]
      · rw [if_neg (by simp [e2]), if_neg e2, if_neg (by simp; omega)]
    · rw [if_neg (by simp [e1])]
      unfold mfind
      rw [mkey_b]
      by_cases e2 : n = q'
      · have e3 : ¬ q = q' := by omega
        simp [e2, e3]
      · simp only [e2, decide_false, Bool.false_eq_true, if_false]
        exact mfind_put q q' v r fun e he => h e (List.mem_cons_of_mem _ he)
theorem mkeys_put (q : Int) (v : Value) : ∀ w : Ents, (∀ e ∈ w, ∃ n, e.1 = kJ n) → ∀ e ∈ mput zI w (kJ q) v, ∃ n, e.1 = kJ n
  | [], _, e, he => by
    unfold mput at he
    rw [List.mem_singleton.1 he]; exact ⟨q, rfl⟩
  | x :: r, h, e, he => by
    unfold mput at he
    split at he
    · rcases List.mem_cons.1 he with rfl | he
      · exact ⟨q, rfl⟩
      · exact h e (List.mem_cons_of_mem _ he)
    · rcases List.mem_cons.1 he with rfl | he
      · exact h _ List.mem_cons_self
      · exact mkeys_put q v r (fun y hy => h y (List.mem_cons_of_mem _ hy)) e he
end
end Go.Proofs.Ytledddhagpgfaaa
end
section
namespace Go.Proofs.Ytledddhagpgfaaa
open Go.Abs Go
end Go.Proofs.Ytledddhagpgfaaa
end
section
namespace Go.Proofs.Ytledddhagpgfaaa
open Go.Abs Go
set_option maxRecDepth 100000 in
theorem key_vc (g : KvF) (n : Int) : runP std (withinCon std) 40 noL (keyP std g) 32 Try.f32 (n, ()) =
  ((((-9223372036854775808 : Int) ≤ n) ∧ (n ≤ (9223372036854775807 : Int))) ∧ (∀ (r4 : Int), ((((0 : Int) ≤ r4) ∧ (r4 ≤ (11 : Int))) → ((r4 = ((0 : Int) + (n % (12 : Int)))) → ((((0 : Int) ≤ r4) ∧ (r4 < ((List.length [(Value.string (ByteArray.mk (Array.mk [(97 : UInt8)]))), (Value.string (ByteArray.mk (Array.mk [(97 : UInt8), (98 : UInt8)]))), (Value.string (ByteArray.mk (Array.mk [(97 : UInt8), (98 : UInt8), (99 : UInt8)]))), (Value.string (ByteArray.mk (Array.mk [(98 : UInt8)]))), (Value.string (ByteArray.mk (Array.mk [(98 : UInt8), (97 : UInt8)]))), (Value.string (ByteArray.mk (Array.mk [(115 : UInt8), (47 : UInt8), (97 : UInt8)]))), (Value.string (ByteArray.mk (Array.mk [(115 : UInt8), (47 : UInt8), (98 : UInt8)]))), (Value.string (ByteArray.mk (Array.mk [(115 : UInt8), (47 : UInt8), (99 : UInt8)]))), (Value.string (ByteArray.mk (Array.mk [(116 : UInt8)]))), (Value.string (ByteArray.mk (Array.mk [(117 : UInt8)]))), (Value.string (ByteArray.mk (Array.mk [(122 : UInt8)]))), (Value.string (ByteArray.mk (Array.mk [(122 : UInt8), (122 : UInt8)])))]) : Int))) ∧ ([(Value.string (eS [(Value.string (ByteArray.mk (Array.mk [(97 : UInt8)]))), (Value.string (ByteArray.mk (Array.mk [(97 : UInt8), (98 : UInt8)]))), (Value.string (ByteArray.mk (Array.mk [(97 : UInt8), (98 : UInt8), (99 : UInt8)]))), (Value.string (ByteArray.mk (Array.mk [(98 : UInt8)]))), (Value.string (ByteArray.mk (Array.mk [(98 : UInt8), (97 : UInt8)]))), (Value.string (ByteArray.mk (Array.mk [(115 : UInt8), (47 : UInt8), (97 : UInt8)]))), (Value.string (ByteArray.mk (Array.mk [(115 : UInt8), (47 : UInt8), (98 : UInt8)]))), (Value.string (ByteArray.mk (Array.mk [(115 : UInt8), (47 : UInt8), (99 : UInt8)]))), (Value.string (ByteArray.mk (Array.mk [(116 : UInt8)]))), (Value.string (ByteArray.mk (Array.mk [(117 : UInt8)]))), (Value.string (ByteArray.mk (Array.mk [(122 : UInt8)]))), (Value.string (ByteArray.mk (Array.mk [(122 : UInt8), (122 : UInt8)])))] (Int.toNat r4)))] = [(Value.string (g.key n))])))))) := by kernel_rfl
end Go.Proofs.Ytledddhagpgfaaa
end
section
namespace Go.Proofs.Ytledddhagpgfaaa
open Go.Shelf Go.Abs Go.RowKit Go Go.Lib
theorem dra_plain {fz : Nat → Nat → Option Value} {x v' : Value} (hp : plain1 x = true) (h : DRa fz x v') : v' = x := by
  rcases h with ⟨_, h⟩ | ⟨xs, ys, rfl, _, _⟩
  · exact dr_plain hp h
  · simp [plain1] at hp
/-- Grow of nil, from what its text does. -/
theorem grow_pf {fi : FuncId} {fn : Func} {c : Code} (hf : Try.prog.funcs[fi]? = some fn) (hb : fn.body = some c) {z : Value} {e : TypeId} {z0 : Value} (hsz : z0.cells.size = z.cells.size)
    (h0 : ∀ w, Calls Try.prog fi #[.slice none 0 0, .int .i64 (0 : Nat)] w fun en w' => en = .returned (.slice none 0 0) ∧ w' = w)
    (h1 : ∀ (n : Nat) w, 0 < n → n ≤ 4000000 → Calls Try.prog fi #[.slice none 0 0, .int .i64 n] w fun en w' => ∃ cp, en = .returned (.slice (some ⟨w.heap.size, 0, none⟩) 0 cp) ∧
      w' = w.drew.alloc (.cells (#[] ++ Builtin.zeroCells z0.cells n ++ Builtin.zeroCells z0.cells (cp - n)) e)) : PFOk Try.prog fi (growP std z) := by
  refine ⟨fun {zf base w} hbase hz0 {d} hpre {xs} hraw {args'} hl => ?_⟩
  obtain ⟨_, n, _⟩ := d
  obtain ⟨hn0, hn1⟩ := hpre
  have hn0 : 0 ≤ n := hn0
  have hn1 : n ≤ 4000000 := hn1
  obtain ⟨m, rfl⟩ : ∃ m : Nat, n = (m : Int) := ⟨n.toNat, by omega⟩
  have hx : xs = [.slice none 0 0, .int .i64 m] := by
    have e : rawVs deep0 (growP std z).zs ((growP std z).args ((), (m : Int), ())) = some [.slice none 0 0, .int .i64 m] := rfl
    rw [e] at hraw
    exact (Option.some.inj hraw).symm
  subst hx
  obtain ⟨a0, l0, e0, r0, hl⟩ := hl.inv_cons
  obtain ⟨a1, l1, rfl, r1, hl⟩ := hl.inv_cons
  have := hl.inv_nil; subst this
  rw [dra_plain rfl r0, dra_plain rfl r1] at e0
  have ha : args' = #[.slice none 0 0, .int .i64 m] := Array.toList_inj.1 e0
  subst ha
  have hn := Try.progOk.name hf
  have hfv : ∀ b, (freshV ((growP std z).res ((), (m : Int), ())) b) = some (osl z [] b) := fun b => by
    show (match asDeep (dsl z []) with | some (z, xs) => some (osl z xs b) | none => none) = _
    rw [asDeep_dsl]
  refine .inr ⟨by simp [callFunc, hf, hn, hb], ?_⟩
  by_cases hm : m = 0
  · subst hm
    refine (h0 w).mono ?_
    rintro en w' ⟨rfl, rfl⟩
    refine ⟨_, rfl, zf, none, .refl _ _, fun _ _ _ h => h, fun _ _ _ h => .inl h, hz0, fun {μ b} hz ht => ?_, fun _ b => by rw [hfv]; rfl, fun p h => by cases h⟩
    show VR μ (osl z [] b) _
    exact .zero (.osl .nil rfl (.inl rfl))
  · refine (h1 m w (by omega) (by omega)).mono ?_
    rintro en w' ⟨cp, rfl, rfl⟩
    have hgr := grow_drew_alloc w (.cells (#[] ++ Builtin.zeroCells z0.cells m ++ Builtin.zeroCells z0.cells (cp - m)) e)
    have hz9 : (#[] ++ Builtin.zeroCells z0.cells m ++ Builtin.zeroCells z0.cells (cp - m)).size = m * z.cells.size + (cp - m) * z.cells.size := by
      rw [Array.size_append, Array.size_append, size_zeroC, size_zeroC, hsz]; simp
    generalize hA : (#[] ++ Builtin.zeroCells z0.cells m ++ Builtin.zeroCells z0.cells (cp - m)) = arr at hz9 hgr
    refine ⟨_, rfl, zf, some ⟨w.heap.size, 0, arr.size⟩, ⟨hgr.os, hgr.tape, hgr.output, by rw [hgr.size]; omega, hgr.old⟩, fun _ _ _ h => h, fun _ _ _ h => .inl h, fun c i a h => ?_, fun {μ b} hz ht => ?_, fun _ b => by rw [hfv]; rfl, fun p h => ?_⟩
    · obtain ⟨arr', e', fr', h2, h3⟩ := hz0 c i a h
      exact ⟨arr', e', fr', (hgr.old c (Array.getElem?_eq_some_iff.1 h2).1).trans h2, h3⟩
    · show VR μ (osl z [] b) _
      refine .zero (.osl .nil rfl (.inr ⟨rfl, ⟨w.heap.size, 0, arr.size⟩, w.heap.size, 0, rfl, ht, rfl, by simp, ?_⟩))
      show 0 + cp * z.cells.size ≤ arr.size
      rw [hz9, ← Nat.add_mul, Nat.zero_add]
      exact Nat.mul_le_mul_right _ (by omega)
    · simp only [Option.some.injEq] at h; subst h
      refine ⟨rfl, Nat.le_refl _, fun c i a h hc => ?_, arr, e, _, hgr.new, rfl, fun i _ h => ?_⟩
      · obtain ⟨arr', e', fr', h2, _⟩ := hz0 c i a h
        have := (Array.getElem?_eq_some_iff.1 h2).1
        simp at hc; omega
      · simp at h
end Go.Proofs.Ytledddhagpgfaaa
end
section
namespace Go.Proofs.Ytledddhagpgfaaa
open Go.RowKit Go.Abs Go
def noB : ByteArray := ⟨#[]⟩
def prV (k v : ByteArray) : Value := .agg #[.string k, .string v]
def cmpB (a b : ByteArray) : Int := Lib.compareBytes a.data.toList b.data.toList
def ltB (a b : ByteArray) : Bool := Op.bytesLess a.data.toList b.data.toList
def eqB (a b : ByteArray) : Bool := a.data.toList == b.data.toList
def lenB (a : ByteArray) : Nat := a.data.toList.length
def bsL : Nat → (Nat → Bool) → Int → Int → Int
  | 0, _, i, _ => i
  | f + 1, p, i, j => if i < j then (if p ((i + j) / 2).toNat then bsL f p ((i + j) / 2 + 1) j else bsL f p i ((i + j) / 2)) else i
def bsF (xs : List Value) (k : ByteArray) : Int := bsL (xs.length + 1) (fun m => decide (cmpB (kP xs m) k < 0)) 0 xs.length
def fdF (xs : List Value) (k : ByteArray) : Bool := decide (bsF xs k < (xs.length : Int)) && cmpB (kP xs (bsF xs k).toNat) k == 0
def mayF (k v : ByteArray) : Bool := !eqB k noB && (decide ((lenB k : Int) ≤ 16) && decide ((lenB v : Int) ≤ 24))
def rmayF (k v : ByteArray) : Bool := decide (1 ≤ (lenB k : Int)) && (decide ((lenB k : Int) ≤ 16) && decide ((lenB v : Int) ≤ 24))
def rightAt (may : ByteArray → ByteArray → Bool) (xs : List Value) (i : Nat) : Bool := may (kP xs i) (vP xs i) && (i == 0 || ltB (kP xs (i - 1)) (kP xs i))
def rightF (may : ByteArray → ByteArray → Bool) (xs : List Value) : Bool := (List.range xs.length).all (rightAt may xs) && decide (xs.length ≤ 30)
def sameAt (xs ys : List Value) (i : Nat) : Bool := eqB (kP xs i) (kP ys i) && eqB (vP xs i) (vP ys i)
def sameF (xs ys : List Value) : Bool := xs.length == ys.length && (List.range xs.length).all (sameAt xs ys)
def samebF (xs ys : List Value) : Bool := xs.length == ys.length && (List.range xs.length).all fun i => eB xs i == eB ys i
/-- The first place at which something does not hold. -/
def firstN (p : Nat → Bool) : Nat → Nat → Nat
  | 0, i => i
  | n + 1, i => if p i then firstN p n (i + 1) else i
def rfirstF (xs : List Value) (k : ByteArray) : Int := (firstN (fun i => ltB (kP xs i) k) xs.length 0 : Nat)
def delL (xs : List Value) (k : ByteArray) : Nat → List Value
  | 0 => []
  | i + 1 => if eqB (kP xs i) k then delL xs k i else delL xs k i ++ [prV (kP xs i) (vP xs i)]
def rdelF (xs : List Value) (k : ByteArray) : List Value := delL xs k xs.length
def putF (xs : List Value) (i : Nat) (k v : ByteArray) (at' : Bool) : List Value := xs.take i ++ [prV k v] ++ xs.drop (if at' then i + 1 else i)
def rsetF (xs : List Value) (k v : ByteArray) : List Value := putF xs (rfirstF xs k).toNat k v (decide (rfirstF xs k < (xs.length : Int)) && eqB (kP xs (rfirstF xs k).toNat) k)
def getF (xs : List Value) (k : ByteArray) : ByteArray := if fdF xs k then vP xs (bsF xs k).toNat else noB
def setokF (xs : List Value) (k v : ByteArray) : Bool := mayF k v && (fdF xs k || decide ((xs.length : Int) < 30))
def setF (xs : List Value) (k v : ByteArray) : List Value := if setokF xs k v then putF xs (bsF xs k).toNat k v (fdF xs k) else xs
def dropF (xs : List Value) (k : ByteArray) : List Value := if fdF xs k then xs.take (bsF xs k).toNat ++ xs.drop ((bsF xs k).toNat + 1) else xs
def rngF (xs : List Value) (a b : ByteArray) : List Value := (xs.drop (bsF xs a).toNat).take ((max (bsF xs a) (bsF xs b)).toNat - (bsF xs a).toNat)
def strs (l : List (List UInt8)) : List Value := l.map fun s => .string ⟨s.toArray⟩
def keysV : List Value := strs [[97], [97, 98], [97, 98, 99], [98], [98, 97], [115, 47, 97], [115, 47, 98], [115, 47, 99], [116], [117], [122], [122, 122]]
def txtsV : List Value := strs [[], [49], [120], [118, 97, 108, 117, 101], [49, 50, 51, 52, 53, 54, 55, 56]]
def keyF (n : Int) : ByteArray := eS keysV (n % 12).toNat
def txtF (n : Int) : ByteArray := eS txtsV (n % 5).toNat
def catF (xss : List Value) : List Value := (List.range xss.length).flatMap (eL xss)
def oneL : Nat → Int → List Value
  | 0, _ => []
  | f + 1, n => if 127 < n then .int .u8 (std.wrap .u8 (std.bor .i64 (std.band .i64 n 127) 128)) :: oneL f (std.shr .i64 n 7) else [.int .u8 (std.wrap .u8 n)]
def oneF (n : Int) : List Value := oneL 7 n
def textF (xs : List Value) : List Value := (List.range xs.length).flatMap fun i => oneF (lenB (eS xs i) : Int) ++ std.svals (eS xs i)
def leafF (k v : ByteArray) : List Value := textF [.string k, .string v]
/-- affiantkeep.Pairs: the map behind so many numbers; the pairs of so many keys. -/
def esF (xs : List Value) : Nat → List (Value × Value)
  | 0 => []
  | i + 1 => mput zS (esF xs i) (.string (keyF (eI xs i))) (.string (txtF (Int.tdiv (eI xs i) 12)))
def outL (es : List (Value × Value)) : Nat → List Value
  | 0 => []
  | i + 1 => if mhas zS es (.string (eS keysV i)) then outL es i ++ [prV (eS keysV i) (dstr (mget zS zS es (.string (eS keysV i))))] else outL es i
def pairsF (xs : List Value) : List Value := outL (esF xs (min xs.length 12)) 12
noncomputable def kvF : KvF where
  cmp := cmpB
  bs := bsF
  fd := fdF
  may := mayF
  rmay := rmayF
  right := rightF mayF
  rright := rightF rmayF
  same := sameF
  sameb := samebF
  get := getF
  set := setF
  setok := setokF
  del := dropF
  rng := rngF
  rset := rsetF
  rdel := rdelF
  rfirst := rfirstF
  leaf := leafF
  key := keyF
  txt := txtF
  pairs := pairsF
  cat := catF
  one := oneF
  text := textF
  wi := fun n lo hi => lo + n % (hi - lo + 1)

theorem wrapu (n : Int) : std.wrap .u64 n = n % 18446744073709551616 := rfl
theorem shru1 (n : Int) : std.shr .u64 n 1 = n / 2 := by
  show n.fdiv 2 = n / 2
  exact Int.fdiv_eq_ediv_of_nonneg n (by omega)
theorem mid_of {i j : Int} (h0 : 0 ≤ i) (h1 : i ≤ j) (h2 : j ≤ 1000000) : std.wrap .i64 (std.shr .u64 (std.wrap .u64 (i + j)) 1) = (i + j) / 2 := by
  rw [wrapu, show (i + j) % 18446744073709551616 = i + j by omega, shru1]
  exact wrap_i64 (by omega)
theorem bsL_more (p : Nat → Bool) : ∀ (f : Nat) (i j : Int) (g : Nat), (j - i).toNat < f → (j - i).toNat < g → bsL f p i j = bsL g p i j
  | 0, i, j, g, h, _ => by omega
  | f + 1, i, j, 0, _, h => by omega
  | f + 1, i, j, g + 1, h1, h2 => by
    unfold bsL
    split
    · split
      · exact bsL_more p f _ _ g (by omega) (by omega)
      · exact bsL_more p f _ _ g (by omega) (by omega)
    · rfl
theorem bsL_range (p : Nat → Bool) : ∀ (f : Nat) (i j : Int), i ≤ j → i ≤ bsL f p i j ∧ bsL f p i j ≤ j
  | 0, i, j, h => ⟨Int.le_refl _, h⟩
  | f + 1, i, j, h => by
    unfold bsL
    split
    · split
      · have := bsL_range p f ((i + j) / 2 + 1) j (by omega); omega
      · have := bsL_range p f i ((i + j) / 2) (by omega); omega
    · omega
theorem bsF_range (xs : List Value) (k : ByteArray) : 0 ≤ bsF xs k ∧ bsF xs k ≤ (xs.length : Int) := bsL_range _ _ _ _ (by omega)
theorem fd_lt {xs : List Value} {k : ByteArray} (h : fdF xs k = true) : bsF xs k < (xs.length : Int) := by
  unfold fdF at h
  simp only [Bool.and_eq_true, decide_eq_true_eq] at h
  exact h.1
theorem all_not {p : Nat → Bool} {n i : Nat} (hi : i < n) (h : p i = false) : (List.range n).all p = false := by
  rw [List.all_eq_false]
  exact ⟨i, List.mem_range.2 hi, by rw [h]; exact Bool.false_ne_true⟩
theorem all_yes {p : Nat → Bool} {n : Nat} (h : ∀ i, i < n → p i = true) : (List.range n).all p = true := by
  rw [List.all_eq_true]
  exact fun i hi => h i (List.mem_range.1 hi)
/-- The invariant of a walk that looks whether all is right. -/
def rightI (may : ByteArray → ByteArray → Bool) (xs : List Value) (d : NIL) : Prop := d.n = xs.length ∧ ∃ i : Nat, d.i = i ∧ i ≤ xs.length ∧ ∀ j, j < i → rightAt may xs j = true
theorem right_of (may : ByteArray → ByteArray → Bool) (xs : List Value) (hx : xs.length ≤ 1000000) {d : NIL} (hI : rightI may xs d) (right : List Value → Bool) (hr : right xs = rightF may xs) :
   ((decide (d.i < d.n) = true → (0 ≤ d.i ∧ d.i < (xs.length : Int)) ∧ True ∧
      (may (kP xs d.i.toNat) (vP xs d.i.toNat) = true →
        (decide (0 < d.i) = true → (-9223372036854775808 ≤ d.i - 1 ∧ d.i - 1 ≤ 9223372036854775807) ∧ (0 ≤ d.i - 1 ∧ d.i - 1 < (xs.length : Int)) ∧
          ((!std.slt (kP xs (d.i - 1).toNat) (kP xs d.i.toNat)) = true → [Value.bool false] = [Value.bool (right xs)]) ∧
          ((!std.slt (kP xs (d.i - 1).toNat) (kP xs d.i.toNat)) = false → (-9223372036854775808 ≤ d.i + 1 ∧ d.i + 1 ≤ 9223372036854775807) ∧ ∃ d' : NIL, [Filler.dl xs, Filler.dl xs, Filler.val (Value.int IntKind.i64 d'.n), Filler.val (Value.int IntKind.i64 d'.i)] = [Filler.dl xs, Filler.dl xs, Filler.val (Value.int IntKind.i64 d.n), Filler.val (Value.int IntKind.i64 (d.i + 1))] ∧ Nat.le (Nat.succ (d'.n - d'.i).toNat) (d.n - d.i).toNat ∧ rightI may xs d')) ∧
        (decide (0 < d.i) = false → (-9223372036854775808 ≤ d.i + 1 ∧ d.i + 1 ≤ 9223372036854775807) ∧ ∃ d' : NIL, [Filler.dl xs, Filler.dl xs, Filler.val (Value.int IntKind.i64 d'.n), Filler.val (Value.int IntKind.i64 d'.i)] = [Filler.dl xs, Filler.dl xs, Filler.val (Value.int IntKind.i64 d.n), Filler.val (Value.int IntKind.i64 (d.i + 1))] ∧ Nat.le (Nat.succ (d'.n - d'.i).toNat) (d.n - d.i).toNat ∧ rightI may xs d')) ∧
      (may (kP xs d.i.toNat) (vP xs d.i.toNat) = false → [Value.bool false] = [Value.bool (right xs)])) ∧
    (decide (d.i < d.n) = false → (decide ((xs.length : Int) ≤ 30) = true → [Value.bool true] = [Value.bool (right xs)]) ∧ (decide ((xs.length : Int) ≤ 30) = false → [Value.bool false] = [Value.bool (right xs)]))) := by
  obtain ⟨hn, i, hi, hle, hall⟩ := hI
  have key : ∀ b, rightF may xs = b → ([Value.bool b] = [Value.bool (right xs)]) := fun b hb => by rw [hr, hb]
  have bad : i < xs.length → rightAt may xs i = false → rightF may xs = false := fun h1 h2 => by unfold rightF; rw [all_not h1 h2]; rfl
  have next : i < xs.length → rightAt may xs i = true → ∃ d' : NIL, [Filler.dl xs, Filler.dl xs, Filler.val (Value.int IntKind.i64 d'.n), Filler.val (Value.int IntKind.i64 d'.i)] = [Filler.dl xs, Filler.dl xs, Filler.val (Value.int IntKind.i64 d.n), Filler.val (Value.int IntKind.i64 (d.i + 1))] ∧ Nat.le (Nat.succ (d'.n - d'.i).toNat) (d.n - d.i).toNat ∧ rightI may xs d' := fun h1 h2 => by
    refine ⟨⟨d.n, d.i + 1⟩, rfl, ?_, hn, i + 1, by show d.i + 1 = _; omega, h1, fun j hj => ?_⟩
    · show (d.n - (d.i + 1)).toNat + 1 ≤ (d.n - d.i).toNat
      omega
    · by_cases e : j = i
      · subst e; exact h2
      · exact hall j (by omega)
  rw [hi, Int.toNat_natCast]
  refine ⟨fun h => ?_, fun h => ⟨fun e => key _ ?_, fun e => key _ ?_⟩⟩
  · have h := of_decide_eq_true h
    have hlt : i < xs.length := by omega
    refine ⟨by omega, trivial, fun h1 => ⟨fun h2 => ?_, fun h2 => ?_⟩, fun h1 => key _ (bad hlt (by unfold rightAt; rw [h1]; rfl))⟩
    · have h2 := of_decide_eq_true h2
      rw [show ((i : Int) - 1).toNat = i - 1 by omega]
      refine ⟨by omega, by omega, fun h3 => key _ (bad hlt ?_), fun h3 => ⟨by omega, ?_⟩⟩
      · have h3 : (!ltB (kP xs (i - 1)) (kP xs i)) = true := h3
        have h3 : ltB (kP xs (i - 1)) (kP xs i) = false := by simpa using h3
        unfold rightAt
        rw [h1, h3, show (i == 0) = false by simp; omega]; rfl
      · have h3 : (!ltB (kP xs (i - 1)) (kP xs i)) = false := h3
        have h3 : ltB (kP xs (i - 1)) (kP xs i) = true := by simpa using h3
        rw [← hi]
        refine next hlt ?_
        unfold rightAt
        rw [h1, h3]; simp
    · have h2 := of_decide_eq_false h2
      refine ⟨by omega, ?_⟩
      rw [← hi]
      refine next hlt ?_
      unfold rightAt
      rw [h1, show (i == 0) = true by simp; omega]; rfl
  · have h := of_decide_eq_false h
    unfold rightF
    rw [all_yes fun j hj => hall j (by omega)]
    have e := of_decide_eq_true e
    rw [decide_eq_true (by omega)]; rfl
  · unfold rightF
    have e := of_decide_eq_false e
    rw [decide_eq_false (by omega), Bool.and_false]
theorem eqB_iff {a b : ByteArray} : eqB a b = true ↔ a = b := by
  unfold eqB
  rw [beq_iff_eq]
  refine ⟨fun h => ?_, fun h => by rw [h]⟩
  cases a; cases b
  simp only [ByteArray.mk.injEq]
  exact Array.toList_inj.1 h
def sameI (p : Nat → Bool) (n : Nat) (d : IL) : Prop := ∃ i : Nat, d.i = i ∧ i ≤ n ∧ ∀ j, j < i → p j = true
theorem firstN_ok (p : Nat → Bool) : ∀ (n i : Nat), i ≤ firstN p n i ∧ firstN p n i ≤ i + n ∧ (∀ j, i ≤ j → j < firstN p n i → p j = true) ∧ (firstN p n i < i + n → p (firstN p n i) = false)
  | 0, i => ⟨Nat.le_refl _, Nat.le_refl _, fun j h1 h2 => by simp [firstN] at h2; omega, fun h => by simp [firstN] at h⟩
  | n + 1, i => by
    unfold firstN
    split
    · rename_i h
      obtain ⟨h1, h2, h3, h4⟩ := firstN_ok p n (i + 1)
      refine ⟨by omega, by omega, fun j h5 h6 => ?_, fun h5 => h4 (by omega)⟩
      by_cases e : j = i
      · subst e; exact h
      · exact h3 j (by omega) h6
    · rename_i h
      exact ⟨Nat.le_refl _, by omega, fun j h1 h2 => by omega, fun _ => by simpa using h⟩
theorem firstN_eq {p : Nat → Bool} {n i : Nat} (hi : i ≤ n) (h1 : ∀ j, j < i → p j = true) (h2 : i < n → p i = false) : firstN p n 0 = i := by
  obtain ⟨_, h4, h5, h6⟩ := firstN_ok p n 0
  rcases Nat.lt_trichotomy (firstN p n 0) i with h | h | h
  · have := h6 (by omega)
    rw [h1 _ h] at this; cases this
  · exact h
  · have := h5 i (Nat.zero_le _) h
    rw [h2 (by omega)] at this; cases this
theorem rfirst_range (xs : List Value) (k : ByteArray) : 0 ≤ rfirstF xs k ∧ rfirstF xs k ≤ (xs.length : Int) := by
  have := (firstN_ok (fun i => ltB (kP xs i) k) xs.length 0).2.1
  unfold rfirstF
  omega
theorem delL_len (xs : List Value) (k : ByteArray) : ∀ i, (delL xs k i).length ≤ i
  | 0 => Nat.le_refl _
  | i + 1 => by
    have := delL_len xs k i
    unfold delL
    split
    · omega
    · simp; omega
end Go.Proofs.Ytledddhagpgfaaa
end
section
namespace Go.Proofs.Ytledddhagpgfaaa
open Go.RowKit Go.Abs Go
/-- A statement, kept whole. -/
structure Holds (p : Prop) : Prop where
  out : p
theorem dels_dsl (z : Value) (l : List Value) : dels (dsl z l) = l := by simp [dels, dsl]
theorem catF3 (a b c : List Value) : catF [dsl zP a, dsl zP b, dsl zP c] = a ++ b ++ c := by
  show dels (dsl zP a) ++ (dels (dsl zP b) ++ (dels (dsl zP c) ++ [])) = _
  rw [dels_dsl, dels_dsl, dels_dsl, List.append_nil, List.append_assoc]
theorem catF2 (a b : List Value) : catF [dsl zP a, dsl zP b] = a ++ b := by
  show dels (dsl zP a) ++ (dels (dsl zP b) ++ []) = _
  rw [dels_dsl, dels_dsl, List.append_nil]
def sumL (xss : List Value) : Nat → Nat
  | 0 => 0
  | i + 1 => sumL xss i + (eL xss i).length
theorem sumL_le {xss : List Value} (h : ∀ i, i < xss.length → (eL xss i).length ≤ 1000000) : ∀ i, i ≤ xss.length → sumL xss i ≤ i * 1000000
  | 0, _ => by simp [sumL]
  | i + 1, hi => by
    have := sumL_le h i (by omega)
    have := h i (by omega)
    unfold sumL
    omega
def catL (xss : List Value) : Nat → List Value
  | 0 => []
  | i + 1 => catL xss i ++ eL xss i
theorem catL_len (xss : List Value) : ∀ i, (catL xss i).length = sumL xss i
  | 0 => rfl
  | i + 1 => by unfold catL sumL; rw [List.length_append, catL_len xss i]
theorem catL_eq (xss : List Value) : ∀ n, catL xss n = (List.range n).flatMap (eL xss)
  | 0 => rfl
  | n + 1 => by
    unfold catL
    rw [catL_eq xss n, List.range_succ, List.flatMap_append]
    simp
theorem key_run (n : Int) (hn : -9223372036854775808 ≤ n ∧ n ≤ 9223372036854775807) : Holds (runP std (withinCon std) 40 noL (keyP std kvF) 32 Try.f32 (n, ())) := by
  constructor
  rw [key_vc]
  refine ⟨hn, fun r h1 h2 => ⟨⟨h1.1, ?_⟩, ?_⟩⟩
  · show r < 12
    omega
  · rw [show r = n % 12 by omega]; rfl
theorem len3 {a b c : List Value} (ha : a.length ≤ 1000000) (hb : b.length ≤ 1000000) (hc : c.length ≤ 1000000) : ∀ i : Nat, i < 3 → (eL [dsl zP a, dsl zP b, dsl zP c] i).length ≤ 1000000
  | 0, _ => by show (dels (dsl zP a)).length ≤ _; rw [dels_dsl]; exact ha
  | 1, _ => by show (dels (dsl zP b)).length ≤ _; rw [dels_dsl]; exact hb
  | 2, _ => by show (dels (dsl zP c)).length ≤ _; rw [dels_dsl]; exact hc
  | _ + 3, h => by omega
theorem len2 {a b : List Value} (ha : a.length ≤ 1000000) (hb : b.length ≤ 1000000) : ∀ i : Nat, i < 2 → (eL [dsl zP a, dsl zP b] i).length ≤ 1000000
  | 0, _ => by show (dels (dsl zP a)).length ≤ _; rw [dels_dsl]; exact ha
  | 1, _ => by show (dels (dsl zP b)).length ≤ _; rw [dels_dsl]; exact hb
  | _ + 2, h => by omega
theorem take_len {xs : List Value} (hx : xs.length ≤ 1000000) (i j : Nat) : (List.take i (List.drop j xs)).length ≤ 1000000 := by
  rw [List.length_take, List.length_drop]; omega
theorem take_rest (xs : List Value) (j : Nat) : List.take (xs.length - j) (List.drop j xs) = xs.drop j := List.take_of_length_le (by rw [List.length_drop]; omega)
theorem imax_max (a b : Int) : std.imax a b = max a b := by
  show (if b > a then b else a) = max a b
  rw [Int.max_def]
  split <;> split <;> omega
end Go.Proofs.Ytledddhagpgfaaa
end
section
namespace Go.Proofs.Ytledddhagpgfaaa
open Go.RowKit Go.Abs Go
theorem u8_lt (a b : UInt8) : a < b ↔ a.toNat < b.toNat := UInt8.lt_iff_toNat_lt
theorem u8_eq (a b : UInt8) : a = b ↔ a.toNat = b.toNat := UInt8.toNat_inj.symm
theorem less_iff : ∀ a b : List UInt8, Op.bytesLess a b = true ↔ Lib.compareBytes a b < 0
  | [], [] => by simp [Op.bytesLess, Lib.compareBytes]
  | [], _ :: _ => by simp [Op.bytesLess, Lib.compareBytes]
  | _ :: _, [] => by simp [Op.bytesLess, Lib.compareBytes]
  | a :: x, b :: y => by
    have ih := less_iff x y
    unfold Op.bytesLess Lib.compareBytes
    simp only [Bool.or_eq_true, decide_eq_true_eq, Bool.and_eq_true, beq_iff_eq]
    rw [ih]
    by_cases h1 : a < b
    · simp [h1]
    · by_cases h2 : b < a
      · have : a ≠ b := fun e => by subst e; rw [u8_lt] at h2; omega
        simp [h1, h2, this]
      · have : a = b := by rw [u8_lt] at h1 h2; rw [u8_eq]; omega
        subst this
        simp [h1]
theorem cmp_zero : ∀ a b : List UInt8, Lib.compareBytes a b = 0 ↔ a = b
  | [], [] => by simp [Lib.compareBytes]
  | [], _ :: _ => by simp [Lib.compareBytes]
  | _ :: _, [] => by simp [Lib.compareBytes]
  | a :: x, b :: y => by
    have ih := cmp_zero x y
    unfold Lib.compareBytes
    by_cases h1 : a < b
    · have : a ≠ b := fun e => by subst e; rw [u8_lt] at h1; omega
      simp [h1, this]
    · by_cases h2 : b < a
      · have : a ≠ b := fun e => by subst e; rw [u8_lt] at h2; omega
        simp [h1, h2, this]
      · have : a = b := by rw [u8_lt] at h1 h2; rw [u8_eq]; omega
        subst this
        simp [h1, ih]
theorem less_trans : ∀ {a b c : List UInt8}, Op.bytesLess a b = true → Op.bytesLess b c = true → Op.bytesLess a c = true
  | _, [], _, h, _ => by cases ‹List UInt8› <;> simp [Op.bytesLess] at h
  | _, _ :: _, [], _, h => by simp [Op.bytesLess] at h
  | [], _ :: _, _ :: _, _, _ => rfl
  | a :: x, b :: y, c :: z, h1, h2 => by
    unfold Op.bytesLess at h1 h2 ⊢
    simp only [Bool.or_eq_true, decide_eq_true_eq, Bool.and_eq_true, beq_iff_eq] at h1 h2 ⊢
    rcases h1 with h1 | ⟨rfl, h1⟩
    · rcases h2 with h2 | ⟨rfl, h2⟩
      · left; rw [u8_lt] at h1 h2 ⊢; omega
      · exact .inl h1
    · rcases h2 with h2 | ⟨rfl, h2⟩
      · exact .inl h2
      · exact .inr ⟨rfl, less_trans h1 h2⟩
theorem less_total : ∀ {a b : List UInt8}, Op.bytesLess a b = false → Op.bytesLess b a = true ∨ a = b
  | [], [], _ => .inr rfl
  | [], _ :: _, h => by simp [Op.bytesLess] at h
  | _ :: _, [], _ => .inl rfl
  | a :: x, b :: y, h => by
    unfold Op.bytesLess at h ⊢
    simp only [Bool.or_eq_false_iff, decide_eq_false_iff_not, Bool.and_eq_false_iff, beq_eq_false_iff_ne] at h
    obtain ⟨h1, h2⟩ := h
    simp only [Bool.or_eq_true, decide_eq_true_eq, Bool.and_eq_true, beq_iff_eq, List.cons.injEq]
    by_cases e : a = b
    · subst e
      rcases h2 with h2 | h2
      · exact absurd rfl h2
      · rcases less_total h2 with h3 | h3
        · exact .inl (.inr ⟨rfl, h3⟩)
        · exact .inr ⟨rfl, h3⟩
    · left; left
      rw [u8_eq] at e; rw [u8_lt] at h1 ⊢; omega
theorem less_irrefl : ∀ a : List UInt8, Op.bytesLess a a = false
  | [] => rfl
  | a :: x => by
    have ih := less_irrefl x
    unfold Op.bytesLess
    rw [ih]
    have : ¬ a < a := by rw [u8_lt]; omega
    simp
theorem lt_trans {a b c : ByteArray} (h1 : ltB a b = true) (h2 : ltB b c = true) : ltB a c = true := less_trans h1 h2
theorem lt_irrefl (a : ByteArray) : ltB a a = false := less_irrefl _
theorem lt_total {a b : ByteArray} (h : ltB a b = false) : ltB b a = true ∨ a = b := by
  rcases less_total h with h | h
  · exact .inl h
  · exact .inr (eqB_iff.1 (by unfold eqB; rw [h]; exact beq_self_eq_true _))
theorem lt_cmp (a b : ByteArray) : decide (cmpB a b < 0) = ltB a b := by
  have := less_iff a.data.toList b.data.toList
  unfold cmpB ltB
  cases h : Op.bytesLess a.data.toList b.data.toList with
  | true => exact decide_eq_true (this.1 h)
  | false => exact decide_eq_false fun h2 => by rw [this.2 h2] at h; cases h
theorem eq_cmp (a b : ByteArray) : (cmpB a b == 0) = eqB a b := by
  have := cmp_zero a.data.toList b.data.toList
  unfold cmpB eqB
  rw [Bool.eq_iff_iff, beq_iff_eq, beq_iff_eq]; exact this
theorem lt_ne {a b : ByteArray} (h : ltB a b = true) : eqB a b = false := by
  cases e : eqB a b with
  | false => rfl
  | true => rw [eqB_iff.1 e, lt_irrefl] at h; cases h
theorem gt_ne {a b : ByteArray} (h : ltB a b = true) : eqB b a = false := by
  cases e : eqB b a with
  | false => rfl
  | true => rw [eqB_iff.1 e, lt_irrefl] at h; cases h

def keyV (x : Value) : ByteArray := dstr (fld x 0)
def valV (x : Value) : ByteArray := dstr (fld x 1)
def Wf (l : List Value) : Prop := ∀ x ∈ l, x = prV (keyV x) (valV x)
def RightL (l : List Value) : Prop := rightF mayF l = true ∧ Wf l
def Ord (l : List Value) : Prop := l.Pairwise fun x y => ltB (keyV x) (keyV y) = true
theorem kP_get {l : List Value} {i : Nat} (h : i < l.length) : kP l i = keyV l[i] := by
  unfold kP keyV
  rw [List.getD_eq_getElem?_getD, List.getElem?_eq_getElem h]; rfl
theorem vP_get {l : List Value} {i : Nat} (h : i < l.length) : vP l i = valV l[i] := by
  unfold vP valV
  rw [List.getD_eq_getElem?_getD, List.getElem?_eq_getElem h]; rfl
theorem right_iff (l : List Value) : rightF mayF l = true ↔ (∀ x ∈ l, mayF (keyV x) (valV x) = true) ∧ Ord l ∧ l.length ≤ 30 := by
  unfold rightF
  rw [Bool.and_eq_true, List.all_eq_true, decide_eq_true_eq]
  constructor
  · rintro ⟨h1, h2⟩
    have at' : ∀ i, i < l.length → rightAt mayF l i = true := fun i hi => h1 i (List.mem_range.2 hi)
    refine ⟨fun x hx => ?_, ?_, h2⟩
    · obtain ⟨i, hi, rfl⟩ := List.getElem_of_mem hx
      have := at' i hi
      unfold rightAt at this
      rw [Bool.and_eq_true, kP_get hi, vP_get hi] at this
      exact this.1
    · unfold Ord
      rw [List.pairwise_iff_getElem]
      have step : ∀ d i, ∀ (hi : i < l.length) (hj : i + d + 1 < l.length), ltB (keyV l[i]) (keyV l[i + d + 1]) = true := by
        intro d
        induction d with
        | zero =>
          intro i hi hj
          have := at' (i + 1) hj
          unfold rightAt at this
          rw [Bool.and_eq_true, Bool.or_eq_true, beq_iff_eq, Nat.add_sub_cancel, kP_get hi, kP_get hj] at this
          rcases this.2 with h | h
          · omega
          · exact h
        | succ d ih =>
          intro i hi hj
          have h3 := ih i hi (by omega)
          have := at' (i + d + 2) (by omega)
          unfold rightAt at this
          rw [Bool.and_eq_true, Bool.or_eq_true, beq_iff_eq, show i + d + 2 - 1 = i + d + 1 by omega, kP_get (by omega : i + d + 1 < l.length), kP_get (by omega : i + d + 2 < l.length)] at this
          rcases this.2 with h | h
          · omega
          · exact lt_trans h3 h
      intro i j hi hj hij
      obtain ⟨d, rfl⟩ : ∃ d, j = i + d + 1 := ⟨j - i - 1, by omega⟩
      exact step d i hi hj
  · rintro ⟨h1, h2, h3⟩
    refine ⟨fun i hi => ?_, h3⟩
    have hi := List.mem_range.1 hi
    unfold rightAt
    rw [Bool.and_eq_true, kP_get hi, vP_get hi]
    refine ⟨h1 _ (List.getElem_mem hi), ?_⟩
    rw [Bool.or_eq_true, beq_iff_eq]
    by_cases e : i = 0
    · exact .inl e
    · right
      rw [kP_get (by omega : i - 1 < l.length)]
      exact (List.pairwise_iff_getElem.1 h2) (i - 1) i (by omega) hi (by omega)
/-- Binary search in what is ordered. -/
theorem bsL_spec {p : Nat → Bool} {n : Nat} (hp : ∀ i j, i < j → j < n → p j = true → p i = true) : ∀ (f : Nat) (i j : Int), (j - i).toNat < f → 0 ≤ i → i ≤ j → j ≤ n → (∀ m : Nat, (m : Int) < i → p m = true) → (∀ m : Nat, j ≤ m → m < n → p m = false) →
    (∀ m : Nat, (m : Int) < bsL f p i j → p m = true) ∧ (∀ m : Nat, bsL f p i j ≤ m → m < n → p m = false)
  | 0, i, j, h, _, _, _, _, _ => by omega
  | f + 1, i, j, h, h0, h1, h2, h3, h4 => by
    unfold bsL
    split
    · split
      · rename_i hlt hm
        refine bsL_spec hp f _ _ (by omega) (by omega) (by omega) h2 (fun m hm' => ?_) h4
        by_cases e : m = ((i + j) / 2).toNat
        · rw [e]; exact hm
        · exact hp m ((i + j) / 2).toNat (by omega) (by omega) hm
      · rename_i hlt hm
        refine bsL_spec hp f _ _ (by omega) h0 (by omega) (by omega) h3 fun m hm1 hm2 => ?_
        cases hpm : p m with
        | false => rfl
        | true =>
          exfalso
          by_cases e : m = ((i + j) / 2).toNat
          · rw [e] at hpm; exact hm hpm
          · exact hm (hp ((i + j) / 2).toNat m (by omega) hm2 hpm)
    · exact ⟨fun m hm => h3 m hm, fun m h5 h6 => h4 m (by omega) h6⟩
section
variable {l : List Value} (k : ByteArray)
theorem mono_of (ho : Ord l) : ∀ i j, i < j → j < l.length → ltB (kP l j) k = true → ltB (kP l i) k = true := by
  intro i j hij hj h
  rw [kP_get (by omega)]
  rw [kP_get hj] at h
  exact lt_trans ((List.pairwise_iff_getElem.1 ho) i j (by omega) hj hij) h
theorem bs_rfirst (ho : Ord l) : bsF l k = rfirstF l k := by
  have hp : (fun m => decide (cmpB (kP l m) k < 0)) = fun m => ltB (kP l m) k := by funext m; exact lt_cmp _ _
  have hr := bsF_range l k
  unfold bsF at hr ⊢
  unfold rfirstF
  rw [hp] at hr ⊢
  obtain ⟨h1, h2⟩ := bsL_spec (mono_of k ho) (l.length + 1) 0 l.length (by omega) (by omega) (by omega) (by omega) (fun m hm => by omega) (fun m h1 h2 => by omega)
  rw [firstN_eq (i := (bsL (l.length + 1) (fun m => ltB (kP l m) k) 0 l.length).toNat) (by omega) (fun j hj => h1 j (by omega)) (fun hlt => h2 _ (by omega) hlt)]
  omega
theorem fd_eq (ho : Ord l) : fdF l k = (decide (rfirstF l k < (l.length : Int)) && eqB (kP l (rfirstF l k).toNat) k) := by
  unfold fdF
  rw [bs_rfirst k ho, eq_cmp]
/-- Where a key stands. -/
theorem split_at (ho : Ord l) : ∃ r : Nat, rfirstF l k = r ∧ r ≤ l.length ∧ (∀ x ∈ l.take r, ltB (keyV x) k = true) ∧ ((decide (rfirstF l k < (l.length : Int)) && eqB (kP l (rfirstF l k).toNat) k) = false → ∀ x ∈ l.drop r, ltB k (keyV x) = true) ∧
    ((decide (rfirstF l k < (l.length : Int)) && eqB (kP l (rfirstF l k).toNat) k) = true → ∃ h : r < l.length, keyV l[r] = k ∧ ∀ x ∈ l.drop (r + 1), ltB k (keyV x) = true) := by
  obtain ⟨_, h2, h3, h4⟩ := firstN_ok (fun i => ltB (kP l i) k) l.length 0
  generalize hR : firstN (fun i => ltB (kP l i) k) l.length 0 = r at h2 h3 h4
  have hrf : rfirstF l k = r := by unfold rfirstF; rw [hR]
  rw [hrf, Int.toNat_natCast]
  refine ⟨r, rfl, by omega, fun x hx => ?_, fun hn x hx => ?_, fun hy => ?_⟩
  · obtain ⟨i, hi, rfl⟩ := List.getElem_of_mem hx
    rw [List.length_take] at hi
    rw [List.getElem_take]
    have := h3 i (Nat.zero_le _) (by omega)
    rwa [kP_get (by omega)] at this
  · obtain ⟨i, hi, rfl⟩ := List.getElem_of_mem hx
    rw [List.length_drop] at hi
    rw [List.getElem_drop]
    have hlt : r < l.length := by omega
    have h5 := h4 (by omega)
    rw [kP_get hlt] at h5
    rw [decide_eq_true (by omega), Bool.true_and, kP_get hlt] at hn
    have h6 : ltB k (keyV l[r]) = true := by
      rcases lt_total h5 with h | h
      · exact h
      · rw [h] at hn; rw [eqB_iff.2 rfl] at hn; cases hn
    by_cases e : i = 0
    · subst e; exact h6
    · exact lt_trans h6 ((List.pairwise_iff_getElem.1 ho) r (r + i) hlt (by omega) (by omega))
  · rw [Bool.and_eq_true, decide_eq_true_eq] at hy
    have hlt : r < l.length := by omega
    have h6 : keyV l[r] = k := by have := eqB_iff.1 hy.2; rwa [kP_get hlt] at this
    refine ⟨hlt, h6, fun x hx => ?_⟩
    obtain ⟨i, hi, rfl⟩ := List.getElem_of_mem hx
    rw [List.length_drop] at hi
    rw [List.getElem_drop, ← h6]
    exact (List.pairwise_iff_getElem.1 ho) r (r + 1 + i) hlt (by omega) (by omega)
theorem delL_filter (hw : Wf l) : ∀ n, n ≤ l.length → delL l k n = (l.take n).filter fun x => !eqB (keyV x) k
  | 0, _ => by simp [delL]
  | n + 1, h => by
    have hx : l[n]? = some l[n] := List.getElem?_eq_getElem (by omega)
    have ih := delL_filter hw n (by omega)
    have e : prV (keyV l[n]) (valV l[n]) = l[n] := (hw _ (List.getElem_mem (by omega : n < l.length))).symm
    unfold delL
    rw [ih, List.take_add_one, hx, Option.toList_some, List.filter_append, kP_get (by omega), vP_get (by omega), e]
    cases h1 : eqB (keyV l[n]) k with
    | true => rw [if_pos rfl]; simp [List.filter, h1]
    | false => rw [if_neg Bool.false_ne_true]; simp [List.filter, h1]
theorem rdel_eq (hw : Wf l) : rdelF l k = l.filter fun x => !eqB (keyV x) k := by
  unfold rdelF
  rw [delL_filter k hw _ (Nat.le_refl _), List.take_length]
theorem drop_rdel (hw : Wf l) (ho : Ord l) : dropF l k = rdelF l k := by
  rw [rdel_eq k hw]
  unfold dropF
  rw [fd_eq k ho, bs_rfirst k ho]
  obtain ⟨r, hr, hle, h1, h2, h3⟩ := split_at k ho
  have low : (l.take r).filter (fun x => !eqB (keyV x) k) = l.take r := List.filter_eq_self.2 fun x hx => by rw [lt_ne (h1 x hx)]; rfl
  split
  · rename_i hy
    obtain ⟨hlt, hk, h4⟩ := h3 hy
    have high : (l.drop (r + 1)).filter (fun x => !eqB (keyV x) k) = l.drop (r + 1) := List.filter_eq_self.2 fun x hx => by rw [gt_ne (h4 x hx)]; rfl
    have hd : l.drop r = l[r] :: l.drop (r + 1) := List.drop_eq_getElem_cons hlt
    conv => rhs; rw [← List.take_append_drop r l]
    rw [List.filter_append, low, hd, List.filter_cons, hk, eqB_iff.2 rfl, hr, Int.toNat_natCast]
    simp only [Bool.not_true, Bool.false_eq_true, if_false]
    rw [high]
  · rename_i hy
    have h4 := h2 (by simpa using hy)
    have high : (l.drop r).filter (fun x => !eqB (keyV x) k) = l.drop r := List.filter_eq_self.2 fun x hx => by rw [gt_ne (h4 x hx)]; rfl
    conv => rhs; rw [← List.take_append_drop r l]
    rw [List.filter_append, low, high, List.take_append_drop]
end
theorem right_filter {l : List Value} (p : Value → Bool) (h : RightL l) : RightL (l.filter p) := by
  obtain ⟨h1, h2⟩ := h
  rw [right_iff] at h1
  refine ⟨(right_iff _).2 ⟨fun x hx => h1.1 x (List.mem_filter.1 hx).1, h1.2.1.filter p, ?_⟩, fun x hx => h2 x (List.mem_filter.1 hx).1⟩
  have := List.length_filter_le p l
  omega
theorem may_rmay (k v : ByteArray) : rmayF k v = mayF k v := by
  unfold rmayF mayF
  congr 1
  unfold eqB lenB noB
  cases h : k.data.toList with
  | nil => rfl
  | cons a r => simp; omega
theorem setok_eq {l : List Value} (h : RightL l) (k v : ByteArray) : setokF l k v = (rmayF k v && !decide (30 < ((rsetF l k v).length : Int))) := by
  have ho := ((right_iff l).1 h.1).2
  unfold setokF
  rw [may_rmay, fd_eq k ho.1]
  congr 1
  obtain ⟨r, hr, hle, h1, h2, h3⟩ := split_at k ho.1
  unfold rsetF putF
  rw [hr, Int.toNat_natCast]
  rw [hr, Int.toNat_natCast] at h3
  cases hc : (decide ((r : Int) < (l.length : Int)) && eqB (kP l r) k) with
  | true =>
    obtain ⟨hlt, _⟩ := h3 hc
    rw [if_pos rfl]
    have : (List.take r l ++ [prV k v] ++ List.drop (r + 1) l).length = l.length := by
      simp only [List.length_append, List.length_take, List.length_drop, List.length_cons, List.length_nil]; omega
    rw [this, Bool.true_or, decide_eq_false (by omega)]; rfl
  | false =>
    rw [if_neg Bool.false_ne_true]
    have : (List.take r l ++ [prV k v] ++ List.drop r l).length = l.length + 1 := by
      simp only [List.length_append, List.length_take, List.length_drop, List.length_cons, List.length_nil]; omega
    rw [this, Bool.false_or]
    by_cases e : l.length < 30
    · rw [decide_eq_true (by omega), decide_eq_false (by omega)]; rfl
    · rw [decide_eq_false (by omega), decide_eq_true (by omega)]; rfl
theorem set_rset {l : List Value} (h : RightL l) {k v : ByteArray} (hok : setokF l k v = true) : setF l k v = rsetF l k v ∧ RightL (rsetF l k v) := by
  have ho := ((right_iff l).1 h.1).2
  have hmay := ((right_iff l).1 h.1).1
  have hok2 := setok_eq h k v
  rw [hok] at hok2
  have hok2 := hok2.symm
  rw [Bool.and_eq_true] at hok2
  have hlen : (rsetF l k v).length ≤ 30 := by
    have := hok2.2
    simp only [Bool.not_eq_true', decide_eq_false_iff_not] at this
    omega
  have hm : mayF k v = true := by rw [← may_rmay]; exact hok2.1
  refine ⟨?_, ?_⟩
  · unfold setF
    rw [if_pos hok, fd_eq k ho.1, bs_rfirst k ho.1]; rfl
  · obtain ⟨r, hr, hle, h1, h2, h3⟩ := split_at k ho.1
    have hpk : keyV (prV k v) = k := rfl
    have hpv : valV (prV k v) = v := rfl
    have mk : ∀ j, r ≤ j → (∀ x ∈ l.drop j, ltB k (keyV x) = true) → (l.take r ++ [prV k v] ++ l.drop j).length ≤ 30 → RightL (l.take r ++ [prV k v] ++ l.drop j) := by
      intro j hj hd hl
      have mem : ∀ x ∈ l.take r ++ [prV k v] ++ l.drop j, x ∈ l ∨ x = prV k v := by
        intro x hx
        rcases List.mem_append.1 hx with hx | hx
        · rcases List.mem_append.1 hx with hx | hx
          · exact .inl (List.mem_of_mem_take hx)
          · exact .inr (List.mem_singleton.1 hx)
        · exact .inl (List.mem_of_mem_drop hx)
      refine ⟨(right_iff _).2 ⟨fun x hx => ?_, ?_, hl⟩, fun x hx => ?_⟩
      · rcases mem x hx with hx | rfl
        · exact hmay x hx
        · exact hm
      · unfold Ord
        rw [List.pairwise_append, List.pairwise_append]
        refine ⟨⟨ho.1.sublist (List.take_sublist _ _), List.pairwise_singleton _ _, fun x hx y hy => ?_⟩, ho.1.sublist (List.drop_sublist _ _), fun x hx y hy => ?_⟩
        · rw [List.mem_singleton.1 hy, hpk]; exact h1 x hx
        · rcases List.mem_append.1 hx with hx | hx
          · exact lt_trans (h1 x hx) (hd y hy)
          · rw [List.mem_singleton.1 hx, hpk]; exact hd y hy
      · rcases mem x hx with hx | rfl
        · exact h.2 x hx
        · rfl
    unfold rsetF putF at hlen ⊢
    rw [hr, Int.toNat_natCast] at h2 h3 hlen ⊢
    cases hc : (decide ((r : Int) < (l.length : Int)) && eqB (kP l r) k) with
    | true =>
      rw [hc, if_pos rfl] at hlen
      rw [if_pos rfl]
      obtain ⟨_, _, h4⟩ := h3 hc
      exact mk (r + 1) (by omega) h4 hlen
    | false =>
      rw [hc, if_neg Bool.false_ne_true] at hlen
      rw [if_neg Bool.false_ne_true]
      exact mk r (by omega) (h2 hc) hlen
theorem same_self (l : List Value) : sameF l l = true := by
  unfold sameF
  rw [beq_self_eq_true, Bool.true_and]
  exact all_yes fun i _ => by unfold sameAt; rw [eqB_iff.2 rfl, eqB_iff.2 rfl]; rfl
theorem right_nil : RightL [] := ⟨rfl, fun x hx => by simp at hx⟩
end Go.Proofs.Ytledddhagpgfaaa
end
section
namespace Go.Proofs.Ytledddhagpgfaaa
open Go.Abs Go
set_option maxRecDepth 100000
def tailP (g : KvF) (xs ps : List Value) (I : PlL → Prop) (m : PlL → Nat) (dd : PlL) (PA PB : List Value) : Prop :=
  (((List.length PA) ≤ 1000000) ∧ ((((g.fd PA (g.key (eI xs (Int.toNat (dd.i))))) = true) → (((List.length PB) ≤ 1000000) ∧ ((((decide ((g.rfirst PB (g.key (eI xs (Int.toNat (dd.i))))) < ((List.length PB) : Int))) = true) → ((((0 : Int) ≤ (g.rfirst PB (g.key (eI xs (Int.toNat (dd.i)))))) ∧ ((g.rfirst PB (g.key (eI xs (Int.toNat (dd.i))))) < ((List.length PB) : Int))) ∧ ((((std.seq (kP PB (Int.toNat (g.rfirst PB (g.key (eI xs (Int.toNat (dd.i))))))) (g.key (eI xs (Int.toNat (dd.i))))) = true) → (((List.length PA) ≤ 1000000) ∧ ((((g.same PA PB) = true) → (((List.length PA) ≤ 1000000) ∧ ((((g.right PA) = true) → ((((0 : Int) ≤ (g.rfirst PB (g.key (eI xs (Int.toNat (dd.i)))))) ∧ ((g.rfirst PB (g.key (eI xs (Int.toNat (dd.i))))) < ((List.length PB) : Int))) ∧ ((((!(std.seq (g.get PA (g.key (eI xs (Int.toNat (dd.i))))) (vP PB (Int.toNat (g.rfirst PB (g.key (eI xs (Int.toNat (dd.i))))))))) = true) → ([(Value.bool false)] = [(Value.bool true)])) ∧ (((!(std.seq (g.get PA (g.key (eI xs (Int.toNat (dd.i))))) (vP PB (Int.toNat (g.rfirst PB (g.key (eI xs (Int.toNat (dd.i))))))))) = false) → (((List.length (dd.a)) ≤ 1000000) ∧ ((((g.same (dd.a) (dd.a)) = true) → (((List.length PA) ≤ 1000000) ∧ ((((!((g.bs PA (g.key (eI xs (Int.toNat (dd.i))))) == (g.rfirst PB (g.key (eI xs (Int.toNat (dd.i))))))) = true) → ([(Value.bool false)] = [(Value.bool true)])) ∧ (((!((g.bs PA (g.key (eI xs (Int.toNat (dd.i))))) == (g.rfirst PB (g.key (eI xs (Int.toNat (dd.i))))))) = false) → ((((-9223372036854775808 : Int) ≤ ((dd.i) + (1 : Int))) ∧ (((dd.i) + (1 : Int)) ≤ (9223372036854775807 : Int))) ∧ (∃ (ee : PlL), (([(Filler.dl xs), (Filler.dl ps), (Filler.dl (ee.a)), (Filler.dl (ee.b)), (Filler.val (Value.int IntKind.i64 (ee.i)))] = [(Filler.dl xs), (Filler.dl ps), (Filler.dl PA), (Filler.dl PB), (Filler.val (Value.int IntKind.i64 ((dd.i) + (1 : Int))))]) ∧ ((Nat.le (Nat.succ (m ee)) (m dd)) ∧ (I ee))))))))) ∧ (((g.same (dd.a) (dd.a)) = false) → ([(Value.bool false)] = [(Value.bool true)])))))))) ∧ (((g.right PA) = false) → ([(Value.bool false)] = [(Value.bool true)]))))) ∧ (((g.same PA PB) = false) → ([(Value.bool false)] = [(Value.bool true)]))))) ∧ (((std.seq (kP PB (Int.toNat (g.rfirst PB (g.key (eI xs (Int.toNat (dd.i))))))) (g.key (eI xs (Int.toNat (dd.i))))) = false) → (((List.length PA) ≤ 1000000) ∧ ((((g.same PA PB) = true) → (((List.length PA) ≤ 1000000) ∧ ((((g.right PA) = true) → ([(Value.bool false)] = [(Value.bool true)])) ∧ (((g.right PA) = false) → ([(Value.bool false)] = [(Value.bool true)]))))) ∧ (((g.same PA PB) = false) → ([(Value.bool false)] = [(Value.bool true)])))))))) ∧ (((decide ((g.rfirst PB (g.key (eI xs (Int.toNat (dd.i))))) < ((List.length PB) : Int))) = false) → (((List.length PA) ≤ 1000000) ∧ ((((g.same PA PB) = true) → (((List.length PA) ≤ 1000000) ∧ ((((g.right PA) = true) → ([(Value.bool false)] = [(Value.bool true)])) ∧ (((g.right PA) = false) → ([(Value.bool false)] = [(Value.bool true)]))))) ∧ (((g.same PA PB) = false) → ([(Value.bool false)] = [(Value.bool true)])))))))) ∧ (((g.fd PA (g.key (eI xs (Int.toNat (dd.i))))) = false) → (((List.length PB) ≤ 1000000) ∧ ((((decide ((g.rfirst PB (g.key (eI xs (Int.toNat (dd.i))))) < ((List.length PB) : Int))) = true) → ((((0 : Int) ≤ (g.rfirst PB (g.key (eI xs (Int.toNat (dd.i)))))) ∧ ((g.rfirst PB (g.key (eI xs (Int.toNat (dd.i))))) < ((List.length PB) : Int))) ∧ ((((std.seq (kP PB (Int.toNat (g.rfirst PB (g.key (eI xs (Int.toNat (dd.i))))))) (g.key (eI xs (Int.toNat (dd.i))))) = true) → (((List.length PA) ≤ 1000000) ∧ ((((g.same PA PB) = true) → (((List.length PA) ≤ 1000000) ∧ ((((g.right PA) = true) → ([(Value.bool false)] = [(Value.bool true)])) ∧ (((g.right PA) = false) → ([(Value.bool false)] = [(Value.bool true)]))))) ∧ (((g.same PA PB) = false) → ([(Value.bool false)] = [(Value.bool true)]))))) ∧ (((std.seq (kP PB (Int.toNat (g.rfirst PB (g.key (eI xs (Int.toNat (dd.i))))))) (g.key (eI xs (Int.toNat (dd.i))))) = false) → (((List.length PA) ≤ 1000000) ∧ ((((g.same PA PB) = true) → (((List.length PA) ≤ 1000000) ∧ ((((g.right PA) = true) → ((((!(std.seq (g.get PA (g.key (eI xs (Int.toNat (dd.i))))) (ByteArray.mk (Array.mk [])))) = true) → ([(Value.bool false)] = [(Value.bool true)])) ∧ (((!(std.seq (g.get PA (g.key (eI xs (Int.toNat (dd.i))))) (ByteArray.mk (Array.mk [])))) = false) → (((List.length (dd.a)) ≤ 1000000) ∧ ((((g.same (dd.a) (dd.a)) = true) → (((List.length PA) ≤ 1000000) ∧ ((((!((g.bs PA (g.key (eI xs (Int.toNat (dd.i))))) == (g.rfirst PB (g.key (eI xs (Int.toNat (dd.i))))))) = true) → ([(Value.bool false)] = [(Value.bool true)])) ∧ (((!((g.bs PA (g.key (eI xs (Int.toNat (dd.i))))) == (g.rfirst PB (g.key (eI xs (Int.toNat (dd.i))))))) = false) → ((((-9223372036854775808 : Int) ≤ ((dd.i) + (1 : Int))) ∧ (((dd.i) + (1 : Int)) ≤ (9223372036854775807 : Int))) ∧ (∃ (ee : PlL), (([(Filler.dl xs), (Filler.dl ps), (Filler.dl (ee.a)), (Filler.dl (ee.b)), (Filler.val (Value.int IntKind.i64 (ee.i)))] = [(Filler.dl xs), (Filler.dl ps), (Filler.dl PA), (Filler.dl PB), (Filler.val (Value.int IntKind.i64 ((dd.i) + (1 : Int))))]) ∧ ((Nat.le (Nat.succ (m ee)) (m dd)) ∧ (I ee))))))))) ∧ (((g.same (dd.a) (dd.a)) = false) → ([(Value.bool false)] = [(Value.bool true)]))))))) ∧ (((g.right PA) = false) → ([(Value.bool false)] = [(Value.bool true)]))))) ∧ (((g.same PA PB) = false) → ([(Value.bool false)] = [(Value.bool true)])))))))) ∧ (((decide ((g.rfirst PB (g.key (eI xs (Int.toNat (dd.i))))) < ((List.length PB) : Int))) = false) → (((List.length PA) ≤ 1000000) ∧ ((((g.same PA PB) = true) → (((List.length PA) ≤ 1000000) ∧ ((((g.right PA) = true) → ((((!(std.seq (g.get PA (g.key (eI xs (Int.toNat (dd.i))))) (ByteArray.mk (Array.mk [])))) = true) → ([(Value.bool false)] = [(Value.bool true)])) ∧ (((!(std.seq (g.get PA (g.key (eI xs (Int.toNat (dd.i))))) (ByteArray.mk (Array.mk [])))) = false) → (((List.length (dd.a)) ≤ 1000000) ∧ ((((g.same (dd.a) (dd.a)) = true) → (((List.length PA) ≤ 1000000) ∧ ((((!((g.bs PA (g.key (eI xs (Int.toNat (dd.i))))) == (g.rfirst PB (g.key (eI xs (Int.toNat (dd.i))))))) = true) → ([(Value.bool false)] = [(Value.bool true)])) ∧ (((!((g.bs PA (g.key (eI xs (Int.toNat (dd.i))))) == (g.rfirst PB (g.key (eI xs (Int.toNat (dd.i))))))) = false) → ((((-9223372036854775808 : Int) ≤ ((dd.i) + (1 : Int))) ∧ (((dd.i) + (1 : Int)) ≤ (9223372036854775807 : Int))) ∧ (∃ (ee : PlL), (([(Filler.dl xs), (Filler.dl ps), (Filler.dl (ee.a)), (Filler.dl (ee.b)), (Filler.val (Value.int IntKind.i64 (ee.i)))] = [(Filler.dl xs), (Filler.dl ps), (Filler.dl PA), (Filler.dl PB), (Filler.val (Value.int IntKind.i64 ((dd.i) + (1 : Int))))]) ∧ ((Nat.le (Nat.succ (m ee)) (m dd)) ∧ (I ee))))))))) ∧ (((g.same (dd.a) (dd.a)) = false) → ([(Value.bool false)] = [(Value.bool true)]))))))) ∧ (((g.right PA) = false) → ([(Value.bool false)] = [(Value.bool true)]))))) ∧ (((g.same PA PB) = false) → ([(Value.bool false)] = [(Value.bool true)]))))))))))
def bodyP (g : KvF) (xs ps : List Value) (I : PlL → Prop) (m : PlL → Nat) (dd : PlL) (PA PB : ByteArray) : Prop :=
  ((((List.length (dd.a)) * 32) ≤ 140737488355328) ∧ ((((0 : Int) ≤ (dd.i)) ∧ ((dd.i) < ((List.length xs) : Int))) ∧ (((0 : Int) < (5 : Int)) ∧ (((((std.rem (eI xs (Int.toNat (dd.i))) (5 : Int)) == (4 : Int)) = true) → (((List.length (dd.a)) ≤ 1000000) ∧ (((List.length (dd.b)) ≤ 1000000) ∧ (tailP g xs ps I m dd (g.del (dd.a) (g.key (eI xs (Int.toNat (dd.i))))) (g.rdel (dd.b) (g.key (eI xs (Int.toNat (dd.i))))))))) ∧ ((((std.rem (eI xs (Int.toNat (dd.i))) (5 : Int)) == (4 : Int)) = false) → (((List.length (dd.a)) ≤ 1000000) ∧ ((((g.setok (dd.a) PA PB) = true) → (True ∧ ((((g.rmay PA PB) = true) → (((List.length (dd.b)) ≤ 1000000) ∧ ((((decide ((30 : Int) < ((List.length (g.rset (dd.b) PA PB)) : Int))) = true) → ([(Value.bool false)] = [(Value.bool true)])) ∧ (((decide ((30 : Int) < ((List.length (g.rset (dd.b) PA PB)) : Int))) = false) → (((List.length (dd.b)) ≤ 1000000) ∧ (tailP g xs ps I m dd (g.set (dd.a) PA PB) (g.rset (dd.b) PA PB))))))) ∧ (((g.rmay PA PB) = false) → ([(Value.bool false)] = [(Value.bool true)]))))) ∧ (((g.setok (dd.a) PA PB) = false) → (True ∧ ((((g.rmay PA PB) = true) → (((List.length (dd.b)) ≤ 1000000) ∧ ((((decide ((30 : Int) < ((List.length (g.rset (dd.b) PA PB)) : Int))) = true) → (tailP g xs ps I m dd (g.set (dd.a) PA PB) (dd.b))) ∧ (((decide ((30 : Int) < ((List.length (g.rset (dd.b) PA PB)) : Int))) = false) → ([(Value.bool false)] = [(Value.bool true)]))))) ∧ (((g.rmay PA PB) = false) → (tailP g xs ps I m dd (g.set (dd.a) PA PB) (dd.b)))))))))))))
end Go.Proofs.Ytledddhagpgfaaa
end
section
namespace Go.Proofs.Ytledddhagpgfaaa
open Go.RowKit Go.Abs Go
def playsI (xs : List Value) (d : PlL) : Prop := ∃ i : Nat, d.i = i ∧ i ≤ 30 ∧ i ≤ xs.length ∧ d.a = d.b ∧ RightL d.a
def playsM (d : PlL) : Nat := (30 - d.i).toNat
theorem tail_ok (xs ps : List Value) {d : PlL} {i : Nat} (hi : d.i = i) (h30 : i < 30) (hx : i < xs.length) (hd : RightL d.a) {A : List Value} (hA : RightL A) : tailP kvF xs ps (playsI xs) playsM d A A := by
  have ho := ((right_iff A).1 hA.1).2
  have hl : A.length ≤ 1000000 := by omega
  have hl' : d.a.length ≤ 1000000 := by have := ((right_iff d.a).1 hd.1).2.2; omega
  unfold tailP
  generalize kvF.key (eI xs d.i.toNat) = k
  have hb := bs_rfirst k ho.1
  have hfd := fd_eq k ho.1
  have hrr := rfirst_range A k
  have fin : (!(bsF A k == rfirstF A k)) = true → [Value.bool false] = [Value.bool true] := fun h => by rw [hb] at h; simp at h
  have next : (-9223372036854775808 ≤ d.i + 1 ∧ d.i + 1 ≤ 9223372036854775807) ∧ ∃ ee : PlL, [Filler.dl xs, Filler.dl ps, Filler.dl ee.a, Filler.dl ee.b, Filler.val (Value.int IntKind.i64 ee.i)] = [Filler.dl xs, Filler.dl ps, Filler.dl A, Filler.dl A, Filler.val (Value.int IntKind.i64 (d.i + 1))] ∧ Nat.le (Nat.succ (playsM ee)) (playsM d) ∧ playsI xs ee := by
    refine ⟨by omega, ⟨d.i + 1, A, A⟩, rfl, ?_, i + 1, by show d.i + 1 = _; omega, by omega, by omega, rfl, hA⟩
    show (30 - (d.i + 1)).toNat + 1 ≤ (30 - d.i).toNat
    omega
  have hs : kvF.same A A = true := same_self A
  have hsd : kvF.same d.a d.a = true := same_self d.a
  have hr : kvF.right A = true := hA.1
  have nos : ∀ {X : Prop}, (kvF.same A A = false → X) := fun h => by rw [hs] at h; cases h
  have nosd : ∀ {X : Prop}, (kvF.same d.a d.a = false → X) := fun h => by rw [hsd] at h; cases h
  have nor : ∀ {X : Prop}, (kvF.right A = false → X) := fun h => by rw [hr] at h; cases h
  refine ⟨hl, fun h1 => ?_, fun h1 => ?_⟩ <;> refine ⟨hl, fun h2 => ?_, fun h2 => ?_⟩
  · have h1 : fdF A k = true := h1
    have h2' : rfirstF A k < (A.length : Int) := of_decide_eq_true h2
    refine ⟨⟨hrr.1, h2'⟩, fun h3 => ?_, fun h3 => ?_⟩
    · refine ⟨hl, fun _ => ⟨hl, fun _ => ⟨⟨hrr.1, h2'⟩, fun h4 => ?_, fun _ => ⟨hl', fun _ => ⟨hl, fin, fun _ => next⟩, nosd⟩⟩, nor⟩, nos⟩
      exfalso
      have h4 : (!eqB (getF A k) (vP A (rfirstF A k).toNat)) = true := h4
      unfold getF at h4
      rw [if_pos h1, hb, eqB_iff.2 rfl] at h4
      cases h4
    · exfalso
      have h3 : eqB (kP A (rfirstF A k).toNat) k = false := h3
      rw [hfd, h3, Bool.and_false] at h1; cases h1
  · exfalso
    have h1 : fdF A k = true := h1
    have h2 : decide (rfirstF A k < (A.length : Int)) = false := h2
    rw [hfd, h2, Bool.false_and] at h1; cases h1
  · have h1 : fdF A k = false := h1
    have h2' : rfirstF A k < (A.length : Int) := of_decide_eq_true h2
    refine ⟨⟨hrr.1, h2'⟩, fun h3 => ?_, fun h3 => ?_⟩
    · exfalso
      have h2 : decide (rfirstF A k < (A.length : Int)) = true := h2
      have h3 : eqB (kP A (rfirstF A k).toNat) k = true := h3
      rw [hfd, h2, h3] at h1; cases h1
    · refine ⟨hl, fun _ => ⟨hl, fun _ => ⟨fun h4 => ?_, fun _ => ⟨hl', fun _ => ⟨hl, fin, fun _ => next⟩, nosd⟩⟩, nor⟩, nos⟩
      exfalso
      have h4 : (!eqB (getF A k) noB) = true := h4
      unfold getF at h4
      rw [if_neg (by rw [h1]; exact Bool.false_ne_true), eqB_iff.2 rfl] at h4
      cases h4
  · have h1 : fdF A k = false := h1
    refine ⟨hl, fun _ => ⟨hl, fun _ => ⟨fun h4 => ?_, fun _ => ⟨hl', fun _ => ⟨hl, fin, fun _ => next⟩, nosd⟩⟩, nor⟩, nos⟩
    exfalso
    have h4 : (!eqB (getF A k) noB) = true := h4
    unfold getF at h4
    rw [if_neg (by rw [h1]; exact Bool.false_ne_true), eqB_iff.2 rfl] at h4
    cases h4
theorem body_ok (xs ps : List Value) {d : PlL} {i : Nat} (hi : d.i = i) (h30 : i < 30) (hx : i < xs.length) (hab : d.a = d.b) (hd : RightL d.a) (k v : ByteArray) : bodyP kvF xs ps (playsI xs) playsM d k v := by
  have ho := ((right_iff d.a).1 hd.1).2
  have hl : d.a.length ≤ 1000000 := by omega
  unfold bodyP
  rw [← hab]
  have hok := setok_eq hd k v
  refine ⟨by omega, by omega, by decide, fun _ => ⟨hl, hl, ?_⟩, fun _ => ⟨hl, fun h1 => ⟨trivial, fun h2 => ⟨hl, fun h3 => ?_, fun h3 => ⟨hl, ?_⟩⟩, fun h2 => ?_⟩, fun h1 => ⟨trivial, fun h2 => ⟨hl, fun h3 => ?_, fun h3 => ?_⟩, fun h2 => ?_⟩⟩⟩
  · show tailP kvF xs ps (playsI xs) playsM d (dropF d.a (keyF (eI xs d.i.toNat))) (rdelF d.a (keyF (eI xs d.i.toNat)))
    rw [drop_rdel _ hd.2 ho.1]
    refine tail_ok xs ps hi h30 hx hd ?_
    rw [rdel_eq _ hd.2]
    exact right_filter _ hd
  · exfalso
    have h1 : setokF d.a k v = true := h1
    have h3 : decide (30 < ((rsetF d.a k v).length : Int)) = true := h3
    rw [hok, h3] at h1; simp at h1
  · obtain ⟨e1, e2⟩ := set_rset hd (k := k) (v := v) h1
    show tailP kvF xs ps (playsI xs) playsM d (setF d.a k v) (rsetF d.a k v)
    rw [e1]
    exact tail_ok xs ps hi h30 hx hd e2
  · exfalso
    have h1 : setokF d.a k v = true := h1
    have h2 : rmayF k v = false := h2
    rw [hok, h2] at h1; cases h1
  · have h1 : setokF d.a k v = false := h1
    have e : setF d.a k v = d.a := by unfold setF; rw [if_neg (by rw [h1]; exact Bool.false_ne_true)]
    show tailP kvF xs ps (playsI xs) playsM d (setF d.a k v) d.a
    rw [e]
    exact tail_ok xs ps hi h30 hx hd hd
  · exfalso
    have h1 : setokF d.a k v = false := h1
    have h2 : rmayF k v = true := h2
    have h3 : decide (30 < ((rsetF d.a k v).length : Int)) = false := h3
    rw [hok, h2, h3] at h1; cases h1
  · have h1 : setokF d.a k v = false := h1
    have e : setF d.a k v = d.a := by unfold setF; rw [if_neg (by rw [h1]; exact Bool.false_ne_true)]
    show tailP kvF xs ps (playsI xs) playsM d (setF d.a k v) d.a
    rw [e]
    exact tail_ok xs ps hi h30 hx hd hd
theorem tdiv12 {x : Int} (h : -9223372036854775808 ≤ x ∧ x ≤ 9223372036854775807) : -9223372036854775808 ≤ x.tdiv 12 ∧ x.tdiv 12 ≤ 9223372036854775807 := by
  rcases Int.le_total 0 x with h0 | h0
  · rw [Int.tdiv_eq_ediv_of_nonneg h0]; omega
  · have : x.tdiv 12 = -((-x) / 12) := by
      rw [← Int.tdiv_eq_ediv_of_nonneg (by omega : 0 ≤ -x), Int.neg_tdiv, Int.neg_neg]
    rw [this]; omega
end Go.Proofs.Ytledddhagpgfaaa
end
section
namespace Go.Proofs.Ytledddhagpgfaaa
open Go.RowKit Go.Abs Go
set_option maxRecDepth 100000
theorem inI_std {n : Int} (h : inI std n) : -9223372036854775808 ≤ n ∧ n ≤ 9223372036854775807 := by
  obtain ⟨h1, h2⟩ := h
  have h1 : -9223372036854775808 ≤ n := h1
  have h2 : n ≤ 9223372036854775807 := h2
  exact ⟨h1, h2⟩
theorem withinCon_ok : ConOk Try.prog (withinCon std) := conL_ok fun x hx => by rw [List.mem_singleton.1 hx]; exact withinC_ok
theorem key_ok : PFOk Try.prog 32 (keyP std kvF) :=
  pf_ok (LS := fun _ => noL) Try.progOk withinCon_ok (inCallF_ok 60) (keyP std kvF) Try.func32 (show _ = some (bodyS Try.prog 32) by kernel_rfl) fun d hd => by
    obtain ⟨n, u⟩ := d
    obtain ⟨h⟩ := key_run n (inI_std hd)
    exact h
def IntsOk (xs : List Value) : Prop := ∀ i, i < xs.length → -9223372036854775808 ≤ eI xs i ∧ eI xs i ≤ 9223372036854775807
/-- KvPlays, of lists of numbers. -/
noncomputable def playsQ : PF := pf (.cons cIs (.cons cP .nil)) (fun d => IntsOk d.1) [.bool false] fun _ => [.bool true]
end Go.Proofs.Ytledddhagpgfaaa
end
section
namespace Go.Proofs.Ytledddhagpgfaaa
open Go.Abs Go
end Go.Proofs.Ytledddhagpgfaaa
end
section
namespace Go.Proofs.Ytledddhagpgfaaa
open Go.RowKit Go.Abs Go
set_option maxRecDepth 100000
theorem esF_zero (xs : List Value) : esF xs 0 = [] := rfl
theorem esF_next (xs : List Value) (i : Nat) : esF xs (i + 1) = mput zS (esF xs i) (.string (keyF (eI xs i))) (.string (txtF (Int.tdiv (eI xs i) 12))) := rfl
theorem outL_len (es : List (Value × Value)) : ∀ i, (outL es i).length ≤ i
  | 0 => Nat.le_refl _
  | i + 1 => by
    have := outL_len es i
    unfold outL
    split
    · simp; omega
    · omega
def pairI (xs : List Value) (d : PaL) : Prop := ∃ i : Nat, d.i = i ∧ i ≤ xs.length ∧ i ≤ 12 ∧ d.es = esF xs i
def pairJ (xs : List Value) (d : PaM) : Prop := d.n = 12 ∧ d.es = esF xs (min xs.length 12) ∧ ∃ i : Nat, d.i = i ∧ i ≤ 12 ∧ d.r = outL d.es i
theorem keysV_len : keysV.length = 12 := rfl
theorem tdiv_small {n : Int} (h : -9223372036854775808 ≤ n ∧ n ≤ 9223372036854775807) : -9223372036854775808 ≤ Int.tdiv n 12 ∧ Int.tdiv n 12 ≤ 9223372036854775807 := by
  have h1 : (Int.tdiv n 12).natAbs = n.natAbs / 12 := Int.natAbs_tdiv n 12
  omega
theorem pairs2 (xs : List Value) {es : List (Value × Value)} (he : es = esF xs (min xs.length 12)) : (∃ (d14 : PaM), (([(Filler.dl (d14.r)), (Filler.dl keysV), (Filler.val (Value.int IntKind.i64 (d14.n))), (Filler.val (Value.int IntKind.i64 (d14.i))), (Filler.me (d14.es))] = [(Filler.dl []), (Filler.dl [(Value.string (ByteArray.mk (Array.mk [(97 : UInt8)]))), (Value.string (ByteArray.mk (Array.mk [(97 : UInt8), (98 : UInt8)]))), (Value.string (ByteArray.mk (Array.mk [(97 : UInt8), (98 : UInt8), (99 : UInt8)]))), (Value.string (ByteArray.mk (Array.mk [(98 : UInt8)]))), (Value.string (ByteArray.mk (Array.mk [(98 : UInt8), (97 : UInt8)]))), (Value.string (ByteArray.mk (Array.mk [(115 : UInt8), (47 : UInt8), (97 : UInt8)]))), (Value.string (ByteArray.mk (Array.mk [(115 : UInt8), (47 : UInt8), (98 : UInt8)]))), (Value.string (ByteArray.mk (Array.mk [(115 : UInt8), (47 : UInt8), (99 : UInt8)]))), (Value.string (ByteArray.mk (Array.mk [(116 : UInt8)]))), (Value.string (ByteArray.mk (Array.mk [(117 : UInt8)]))), (Value.string (ByteArray.mk (Array.mk [(122 : UInt8)]))), (Value.string (ByteArray.mk (Array.mk [(122 : UInt8), (122 : UInt8)])))]), (Filler.val (Value.int IntKind.i64 (12 : Int))), (Filler.val (Value.int IntKind.i64 (0 : Int))), (Filler.me es)]) ∧ ((pairJ xs d14) ∧ (∀ (d15 : PaM), ((pairJ xs d15) → ((((decide ((d15.i) < (d15.n))) = true) → ((((0 : Int) ≤ (d15.i)) ∧ ((d15.i) < ((List.length keysV) : Int))) ∧ ((((std.mhas (Value.string (ByteArray.mk (Array.mk []))) (d15.es) (Value.string (eS keysV (Int.toNat (d15.i))))) = true) → ((((List.length ((d15.r) ++ [(Value.agg (Array.mk [(Value.string (eS keysV (Int.toNat (d15.i)))), (Value.string (std.dstr (std.mget (Value.string (ByteArray.mk (Array.mk []))) (Value.string (ByteArray.mk (Array.mk []))) (d15.es) (Value.string (eS keysV (Int.toNat (d15.i)))))))]))])) * 32) ≤ 140737488355328) ∧ ((((-9223372036854775808 : Int) ≤ ((d15.i) + (1 : Int))) ∧ (((d15.i) + (1 : Int)) ≤ (9223372036854775807 : Int))) ∧ (∃ (d19 : PaM), (([(Filler.dl (d19.r)), (Filler.dl keysV), (Filler.val (Value.int IntKind.i64 (d19.n))), (Filler.val (Value.int IntKind.i64 (d19.i))), (Filler.me (d19.es))] = [(Filler.dl ((d15.r) ++ [(Value.agg (Array.mk [(Value.string (eS keysV (Int.toNat (d15.i)))), (Value.string (std.dstr (std.mget (Value.string (ByteArray.mk (Array.mk []))) (Value.string (ByteArray.mk (Array.mk []))) (d15.es) (Value.string (eS keysV (Int.toNat (d15.i)))))))]))])), (Filler.dl keysV), (Filler.val (Value.int IntKind.i64 (d15.n))), (Filler.val (Value.int IntKind.i64 ((d15.i) + (1 : Int)))), (Filler.me (d15.es))]) ∧ ((Nat.le (Nat.succ ((fun d : PaM => (d.n - d.i).toNat) d19)) ((fun d : PaM => (d.n - d.i).toNat) d15)) ∧ (pairJ xs d19))))))) ∧ (((std.mhas (Value.string (ByteArray.mk (Array.mk []))) (d15.es) (Value.string (eS keysV (Int.toNat (d15.i))))) = false) → ((((-9223372036854775808 : Int) ≤ ((d15.i) + (1 : Int))) ∧ (((d15.i) + (1 : Int)) ≤ (9223372036854775807 : Int))) ∧ (∃ (d19 : PaM), (([(Filler.dl (d19.r)), (Filler.dl keysV), (Filler.val (Value.int IntKind.i64 (d19.n))), (Filler.val (Value.int IntKind.i64 (d19.i))), (Filler.me (d19.es))] = [(Filler.dl (d15.r)), (Filler.dl keysV), (Filler.val (Value.int IntKind.i64 (d15.n))), (Filler.val (Value.int IntKind.i64 ((d15.i) + (1 : Int)))), (Filler.me (d15.es))]) ∧ ((Nat.le (Nat.succ ((fun d : PaM => (d.n - d.i).toNat) d19)) ((fun d : PaM => (d.n - d.i).toNat) d15)) ∧ (pairJ xs d19))))))))) ∧ (((decide ((d15.i) < (d15.n))) = false) → ([(dsl zP (d15.r))] = [(dsl zP (kvF.pairs xs))])))))))) := by
  refine ⟨⟨[], 12, 0, es⟩, rfl, ⟨rfl, he, 0, rfl, Nat.zero_le _, rfl⟩, fun d ⟨hn, hes, i, hi, hle, hr⟩ => ⟨fun h => ?_, fun h => ?_⟩⟩
  · have h := of_decide_eq_true h
    have hlt : i < 12 := by omega
    have hlen := outL_len d.es i
    have ho : outL d.es (i + 1) = if mhas zS d.es (.string (eS keysV i)) then outL d.es i ++ [prV (eS keysV i) (dstr (mget zS zS d.es (.string (eS keysV i))))] else outL d.es i := rfl
    rw [hi, Int.toNat_natCast]
    refine ⟨⟨by omega, by rw [keysV_len]; omega⟩, fun e => ⟨?_, by omega, ⟨d.r ++ [prV (eS keysV i) (dstr (mget zS zS d.es (.string (eS keysV i))))], d.n, (i : Int) + 1, d.es⟩, rfl, ?_, hn, hes, i + 1, rfl, hlt, ?_⟩, fun e => ⟨by omega, ⟨d.r, d.n, (i : Int) + 1, d.es⟩, rfl, ?_, hn, hes, i + 1, rfl, hlt, ?_⟩⟩
    · rw [hr, List.length_append]; show ((outL d.es i).length + 1) * 32 ≤ _; omega
    · show (d.n - ((i : Int) + 1)).toNat + 1 ≤ (d.n - d.i).toNat; omega
    · show d.r ++ _ = outL d.es (i + 1)
      rw [ho, if_pos (show mhas zS d.es (.string (eS keysV i)) = true from e), hr]
    · show (d.n - ((i : Int) + 1)).toNat + 1 ≤ (d.n - d.i).toNat; omega
    · show d.r = outL d.es (i + 1)
      rw [ho, if_neg (by rw [show mhas zS d.es (.string (eS keysV i)) = false from e]; exact Bool.false_ne_true), hr]
  · have h := of_decide_eq_false h
    show [dsl zP d.r] = [dsl zP (pairsF xs)]
    rw [hr, hes, show i = 12 by omega]; rfl
/-- Values are among the texts. -/
theorem txt_small (n : Int) : lenB (txtF n) ≤ 8 := by
  have : ∀ k, k < 5 → lenB (eS txtsV k) ≤ 8 := by decide +kernel
  exact this _ (by omega)
def ValsOk (es : List (Value × Value)) : Prop := ∀ e ∈ es, ∃ s, e.2 = .string s ∧ lenB s ≤ 8
theorem mput_vals {kz k : Value} {s : ByteArray} (hs : lenB s ≤ 8) : ∀ {es : List (Value × Value)}, ValsOk es → ValsOk (mput kz es k (.string s))
  | [], _, e, he => by rw [List.mem_singleton.1 he]; exact ⟨s, rfl, hs⟩
  | e0 :: es, h, e, he => by
    unfold mput at he
    split at he
    · rcases List.mem_cons.1 he with rfl | he
      · exact ⟨s, rfl, hs⟩
      · exact h e (List.mem_cons_of_mem _ he)
    · rcases List.mem_cons.1 he with rfl | he
      · exact h _ (List.mem_cons_self ..)
      · exact mput_vals hs (fun e he => h e (List.mem_cons_of_mem _ he)) e he
theorem es_vals (xs : List Value) : ∀ n, ValsOk (esF xs n)
  | 0, e, he => by cases he
  | n + 1, e, he => mput_vals (txt_small _) (es_vals xs n) e he
theorem mget_small {kz k : Value} : ∀ {es : List (Value × Value)}, ValsOk es → lenB (dstr (mget kz zS es k)) ≤ 8
  | [], _ => by show 0 ≤ 8; omega
  | e0 :: es, h => by
    by_cases c : keyB kz e0.1 k = true
    · obtain ⟨s, h1, h2⟩ := h e0 (List.mem_cons_self ..)
      have : mget kz zS (e0 :: es) k = e0.2 := by unfold mget mfind; rw [if_pos c]; rfl
      rw [this, h1]; exact h2
    · have : mget kz zS (e0 :: es) k = mget kz zS es k := by unfold mget; rw [show mfind kz (e0 :: es) k = mfind kz es k by rw [mfind, if_neg c]]
      rw [this]
      exact mget_small fun e he => h e (List.mem_cons_of_mem _ he)
theorem out_mem {es : List (Value × Value)} (h : ValsOk es) : ∀ {i : Nat} {x : Value}, x ∈ outL es i → ∃ j s, j < i ∧ x = prV (eS keysV j) s ∧ lenB s ≤ 8
  | 0, x, hx => by cases hx
  | i + 1, x, hx => by
    unfold outL at hx
    split at hx
    · rcases List.mem_append.1 hx with hx | hx
      · obtain ⟨j, s, h1, h2⟩ := out_mem h hx
        exact ⟨j, s, by omega, h2⟩
      · exact ⟨i, _, by omega, List.mem_singleton.1 hx, mget_small h⟩
    · obtain ⟨j, s, h1, h2⟩ := out_mem h hx
      exact ⟨j, s, by omega, h2⟩
theorem keys_rise : ∀ j, j < 12 → ∀ i, i < j → ltB (eS keysV i) (eS keysV j) = true := by decide +kernel
theorem keys_small : ∀ j, j < 12 → eqB (eS keysV j) noB = false ∧ lenB (eS keysV j) ≤ 16 := by decide +kernel
theorem out_ord {es : List (Value × Value)} (h : ValsOk es) : ∀ {i : Nat}, i ≤ 12 → Ord (outL es i)
  | 0, _ => List.Pairwise.nil
  | i + 1, hi => by
    have ih := out_ord h (i := i) (by omega)
    unfold outL
    split
    · refine List.pairwise_append.2 ⟨ih, List.pairwise_singleton _ _, fun a ha b hb => ?_⟩
      obtain ⟨j, s, h1, rfl, h3⟩ := out_mem h ha
      rw [List.mem_singleton.1 hb]
      exact keys_rise i (by omega) j h1
    · exact ih
theorem pairs_right (xs : List Value) : RightL (pairsF xs) := by
  have hv := es_vals xs (min xs.length 12)
  have hm := fun {x} => out_mem hv (i := 12) (x := x)
  refine ⟨(right_iff _).2 ⟨fun x hx => ?_, out_ord hv (Nat.le_refl _), ?_⟩, fun x hx => ?_⟩
  · obtain ⟨j, s, h1, rfl, h3⟩ := hm hx
    have := keys_small j h1
    show mayF (eS keysV j) s = true
    unfold mayF
    rw [this.1, decide_eq_true (by omega), decide_eq_true (by omega)]; rfl
  · have := outL_len (esF xs (min xs.length 12)) 12
    show (outL _ 12).length ≤ 30
    omega
  · obtain ⟨j, s, h1, rfl, h3⟩ := hm hx
    rfl
end Go.Proofs.Ytledddhagpgfaaa
end
section
namespace Go.Proofs.Ytledddhagpgfaaa
open Go.RowKit Go.Abs Go
theorem shr7' (n : Int) : std.shr .i64 n 7 = n / 128 := by
  show n.fdiv 128 = n / 128
  exact Int.fdiv_eq_ediv_of_nonneg n (by omega)
theorem oneL_len : ∀ (f : Nat) (n : Int), (oneL f n).length ≤ f
  | 0, _ => Nat.le_refl _
  | f + 1, n => by
    unfold oneL
    split
    · have := oneL_len f (std.shr .i64 n 7)
      simp; omega
    · simp
def oneI (n : Int) (d : OneL) : Prop := ∃ f : Nat, d.r ++ oneL (f + 1) d.n = oneF n ∧ 0 ≤ d.n ∧ d.n < 128 ^ (f + 1) ∧ d.r.length + f ≤ 6
def textL (xs : List Value) : Nat → List Value
  | 0 => []
  | i + 1 => textL xs i ++ (oneF (lenB (eS xs i) : Int) ++ std.svals (eS xs i))
theorem textL_eq (xs : List Value) : ∀ n, textL xs n = (List.range n).flatMap fun i => oneF (lenB (eS xs i) : Int) ++ std.svals (eS xs i)
  | 0 => rfl
  | n + 1 => by unfold textL; rw [textL_eq xs n, List.range_succ, List.flatMap_append]; simp
theorem svals_len (s : ByteArray) : (std.svals s).length = lenB s := List.length_map ..
theorem textL_len {xs : List Value} (hl : ∀ i, i < xs.length → lenB (eS xs i) ≤ 1000000) : ∀ i, i ≤ xs.length → (textL xs i).length ≤ i * 1000007
  | 0, _ => by simp [textL]
  | i + 1, h => by
    have h1 := textL_len hl i (by omega)
    have h2 := hl i (by omega)
    have h3 := oneL_len 7 (lenB (eS xs i) : Int)
    unfold textL
    rw [List.length_append, List.length_append, svals_len]
    show _ + ((oneL 7 _).length + _) ≤ _
    omega
theorem svals_inj {s t : ByteArray} (h : std.svals s = std.svals t) : s = t := by
  have h : (s.data.toList.map fun b : UInt8 => Value.int .u8 b.toNat) = t.data.toList.map fun b : UInt8 => Value.int .u8 b.toNat := h
  have : s.data.toList = t.data.toList := by
    refine List.map_inj_right (fun a b e => ?_) |>.1 h
    simp only [Value.int.injEq, true_and] at e
    rw [u8_eq']; omega
  exact eqB_iff.1 (by unfold eqB; rw [this]; exact beq_self_eq_true _)
where u8_eq' {a b : UInt8} : a = b ↔ a.toNat = b.toNat := UInt8.toNat_inj.symm
/-- Small texts tell what they were made of. -/
theorem leaf_inj {k v k' v' : ByteArray} (h1 : lenB k ≤ 127) (h2 : lenB k' ≤ 127) (h : leafF k v = leafF k' v') : k = k' := by
  have small : ∀ s : ByteArray, lenB s ≤ 127 → oneF (lenB s : Int) = [.int .u8 (lenB s : Int)] := fun s hs => by
    unfold oneF oneL
    rw [if_neg (by omega)]
    have : std.wrap .u8 (lenB s : Int) = (lenB s : Int) := by
      show (lenB s : Int) % 256 = _
      omega
    rw [this]
  have e : ∀ a b : ByteArray, leafF a b = oneF (lenB a : Int) ++ std.svals a ++ (oneF (lenB b : Int) ++ std.svals b ++ []) := fun a b => rfl
  rw [e, e, small k h1, small k' h2] at h
  simp only [List.cons_append, List.nil_append, List.cons.injEq, Value.int.injEq, true_and] at h
  exact svals_inj (List.append_inj h.2 (by rw [svals_len, svals_len]; omega)).1
end Go.Proofs.Ytledddhagpgfaaa
end
section
namespace Go.Proofs.Ytledddhagpgfaaa
open Go.RowKit Go.Abs Go
theorem bs_idx {l : List Value} (ho : Ord l) (k : ByteArray) : ∃ r : Nat, bsF l k = r ∧ r ≤ l.length ∧ (∀ i, i < r → ltB (kP l i) k = true) ∧ ∀ i, r ≤ i → i < l.length → ltB (kP l i) k = false := by
  have hr := bsF_range l k
  have hb := bs_rfirst k ho
  obtain ⟨h1, h2, h3, h4⟩ := firstN_ok (fun i => ltB (kP l i) k) l.length 0
  generalize hR : firstN (fun i => ltB (kP l i) k) l.length 0 = r at h1 h2 h3 h4
  have he : bsF l k = r := by rw [hb]; unfold rfirstF; rw [hR]
  refine ⟨r, he, by omega, fun i hi => h3 i (Nat.zero_le _) hi, fun i h5 h6 => ?_⟩
  cases hc : ltB (kP l i) k with
  | false => rfl
  | true =>
    have h7 := h4 (by omega)
    rcases Nat.lt_or_ge r i with h | h
    · rw [mono_of k ho r i h h6 hc] at h7; cases h7
    · rw [show i = r by omega] at hc; rw [hc] at h7; cases h7
theorem filter_idx {l : List Value} {p : Value → Bool} {i0 i1 : Nat} (h0 : i0 ≤ i1) (h1 : i1 ≤ l.length) (hp : ∀ i (h : i < l.length), p l[i] = decide (i0 ≤ i ∧ i < i1)) : l.filter p = (l.drop i0).take (i1 - i0) := by
  have hs : l = l.take i0 ++ ((l.drop i0).take (i1 - i0) ++ l.drop i1) := by
    conv => lhs; rw [← List.take_append_drop i0 l]
    congr 1
    conv => lhs; rw [← List.take_append_drop (i1 - i0) (l.drop i0)]
    rw [List.drop_drop, show i0 + (i1 - i0) = i1 by omega]
  conv => lhs; rw [hs]
  rw [List.filter_append, List.filter_append]
  have e1 : (l.take i0).filter p = [] := List.filter_eq_nil_iff.2 fun x hx => by
    obtain ⟨i, hi, rfl⟩ := List.getElem_of_mem hx
    rw [List.length_take] at hi
    rw [List.getElem_take, hp i (by omega), decide_eq_false (by omega)]; exact Bool.false_ne_true
  have e2 : ((l.drop i0).take (i1 - i0)).filter p = (l.drop i0).take (i1 - i0) := List.filter_eq_self.2 fun x hx => by
    obtain ⟨i, hi, rfl⟩ := List.getElem_of_mem hx
    rw [List.length_take, List.length_drop] at hi
    rw [List.getElem_take, List.getElem_drop, hp _ (by omega)]
    exact decide_eq_true (by omega)
  have e3 : (l.drop i1).filter p = [] := List.filter_eq_nil_iff.2 fun x hx => by
    obtain ⟨i, hi, rfl⟩ := List.getElem_of_mem hx
    rw [List.length_drop] at hi
    rw [List.getElem_drop, hp _ (by omega), decide_eq_false (by omega)]; exact Bool.false_ne_true
  rw [e1, e2, e3]; simp
def inRange (a b : ByteArray) (x : Value) : Bool := !ltB (keyV x) a && ltB (keyV x) b
theorem rng_filter {l : List Value} (ho : Ord l) (a b : ByteArray) : rngF l a b = l.filter (inRange a b) := by
  obtain ⟨ia, ha, hla, a1, a2⟩ := bs_idx ho a
  obtain ⟨ib, hb, hlb, b1, b2⟩ := bs_idx ho b
  unfold rngF
  rw [ha, hb, filter_idx (i0 := ia) (i1 := max ia ib) (by omega) (by omega) fun i hi => ?_]
  · rw [Int.toNat_natCast, show (max (ia : Int) (ib : Int)).toNat = max ia ib by omega]
  · unfold inRange
    rw [← kP_get hi]
    by_cases h1 : i < ia
    · rw [a1 i h1, decide_eq_false (by omega)]; rfl
    · rw [a2 i (by omega) hi]
      by_cases h2 : i < ib
      · rw [b1 i h2, decide_eq_true (by omega)]; rfl
      · rw [b2 i (by omega) hi, decide_eq_false (by omega)]; rfl
theorem bs_mono {l : List Value} (ho : Ord l) {a b : ByteArray} (h : (ltB a b || eqB a b) = true) : bsF l a ≤ bsF l b := by
  obtain ⟨ia, ha, hla, a1, a2⟩ := bs_idx ho a
  obtain ⟨ib, hb, hlb, b1, b2⟩ := bs_idx ho b
  rw [ha, hb]
  rcases Nat.lt_or_ge ib ia with hlt | hge
  · exfalso
    have h1 := a1 ib hlt
    have h2 := b2 ib (Nat.le_refl _) (by omega)
    rw [Bool.or_eq_true] at h
    rcases h with h | h
    · rw [lt_trans h1 h] at h2; cases h2
    · rw [← eqB_iff.1 h, h1] at h2; cases h2
  · omega
theorem rng_join {l : List Value} (ho : Ord l) {a b c : ByteArray} (h1 : (ltB a b || eqB a b) = true) (h2 : (ltB b c || eqB b c) = true) : rngF l a b ++ rngF l b c = rngF l a c := by
  have m1 := bs_mono ho h1
  have m2 := bs_mono ho h2
  have r1 := bsF_range l a
  unfold rngF
  rw [show max (bsF l a) (bsF l b) = bsF l b by omega, show max (bsF l b) (bsF l c) = bsF l c by omega, show max (bsF l a) (bsF l c) = bsF l c by omega]
  have e : l.drop (bsF l b).toNat = (l.drop (bsF l a).toNat).drop ((bsF l b).toNat - (bsF l a).toNat) := by
    rw [List.drop_drop]; congr 1; omega
  rw [e, ← List.take_add]
  congr 1; omega
theorem rng_len {l : List Value} (hl : l.length ≤ 1000000) (a b : ByteArray) : (rngF l a b).length ≤ l.length := by
  unfold rngF
  rw [List.length_take, List.length_drop]; omega
/-- The next of a range. -/
theorem filter_next {l : List Value} {p : Value → Bool} {i : Nat} (hi : i < l.length) (hp : p l[i] = true) : ((l.take i).filter p).length < (l.filter p).length ∧ kP (l.filter p) ((l.take i).filter p).length = kP l i ∧ vP (l.filter p) ((l.take i).filter p).length = vP l i ∧ ((l.take (i + 1)).filter p).length = ((l.take i).filter p).length + 1 := by
  have hs : l.filter p = (l.take i).filter p ++ (l[i] :: (l.drop (i + 1)).filter p) := by
    conv => lhs; rw [← List.take_append_drop i l, List.drop_eq_getElem_cons hi]
    rw [List.filter_append, List.filter_cons, if_pos hp]
  have hlt : ((l.take i).filter p).length < (l.filter p).length := by rw [hs]; simp
  have hg : (l.filter p)[((l.take i).filter p).length]'hlt = l[i] := by
    have : (l.filter p)[((l.take i).filter p).length]? = some l[i] := by rw [hs, List.getElem?_append_right (Nat.le_refl _)]; simp
    rw [List.getElem?_eq_getElem hlt] at this
    exact Option.some.inj this
  refine ⟨hlt, by rw [kP_get hlt, kP_get hi, hg], by rw [vP_get hlt, vP_get hi, hg], ?_⟩
  rw [List.take_add_one, List.getElem?_eq_getElem hi, Option.toList_some, List.filter_append, List.length_append]
  simp [List.filter, hp]
theorem filter_skip {l : List Value} {p : Value → Bool} {i : Nat} (hi : i < l.length) (hp : p l[i] = false) : ((l.take (i + 1)).filter p).length = ((l.take i).filter p).length := by
  rw [List.take_add_one, List.getElem?_eq_getElem hi, Option.toList_some, List.filter_append, List.length_append]
  simp [List.filter, hp]
end Go.Proofs.Ytledddhagpgfaaa
end
section
namespace Go.Proofs.Ytledddhagpgfaaa
open Go.Abs Go
set_option maxRecDepth 100000 in
theorem within_vc (g : KvF) (n lo hi : Int) : runP std noCon 40 noL (withinP std g) 17 Try.f17 (n, lo, hi, ()) =
  ((((-9223372036854775808 : Int) ≤ (hi - lo)) ∧ ((hi - lo) ≤ (9223372036854775807 : Int))) ∧ ((((-9223372036854775808 : Int) ≤ ((hi - lo) + (1 : Int))) ∧ (((hi - lo) + (1 : Int)) ≤ (9223372036854775807 : Int))) ∧ (((0 : Int) < ((hi - lo) + (1 : Int))) ∧ ((((decide ((std.rem n ((hi - lo) + (1 : Int))) < (0 : Int))) = true) → ((((-9223372036854775808 : Int) ≤ ((std.rem n ((hi - lo) + (1 : Int))) + hi)) ∧ (((std.rem n ((hi - lo) + (1 : Int))) + hi) ≤ (9223372036854775807 : Int))) ∧ ((((-9223372036854775808 : Int) ≤ (((std.rem n ((hi - lo) + (1 : Int))) + hi) - lo)) ∧ ((((std.rem n ((hi - lo) + (1 : Int))) + hi) - lo) ≤ (9223372036854775807 : Int))) ∧ ((((-9223372036854775808 : Int) ≤ ((((std.rem n ((hi - lo) + (1 : Int))) + hi) - lo) + (1 : Int))) ∧ (((((std.rem n ((hi - lo) + (1 : Int))) + hi) - lo) + (1 : Int)) ≤ (9223372036854775807 : Int))) ∧ ((((-9223372036854775808 : Int) ≤ (lo + ((((std.rem n ((hi - lo) + (1 : Int))) + hi) - lo) + (1 : Int)))) ∧ ((lo + ((((std.rem n ((hi - lo) + (1 : Int))) + hi) - lo) + (1 : Int))) ≤ (9223372036854775807 : Int))) ∧ ([(Value.int IntKind.i64 (lo + ((((std.rem n ((hi - lo) + (1 : Int))) + hi) - lo) + (1 : Int))))] = [(Value.int IntKind.i64 (g.wi n lo hi))])))))) ∧ (((decide ((std.rem n ((hi - lo) + (1 : Int))) < (0 : Int))) = false) → ((((-9223372036854775808 : Int) ≤ (lo + (std.rem n ((hi - lo) + (1 : Int))))) ∧ ((lo + (std.rem n ((hi - lo) + (1 : Int)))) ≤ (9223372036854775807 : Int))) ∧ ([(Value.int IntKind.i64 (lo + (std.rem n ((hi - lo) + (1 : Int)))))] = [(Value.int IntKind.i64 (g.wi n lo hi))]))))))) := by kernel_rfl
def order_vc_L1 (g : KvF) (xs : List Value) (n : Int) (G : OrC → Prop) (w : OrC → Nat) (d17 : OrB) : Prop :=
  (∃ (d21 : OrC), (([(Filler.val (Value.int IntKind.i64 n)), (Filler.dl (g.pairs xs)), (Filler.dl (d21.x)), (Filler.dl (d21.y)), (Filler.dl (d21.f)), (Filler.val (Value.int IntKind.i64 (d21.i)))] = [(Filler.val (Value.int IntKind.i64 n)), (Filler.dl (g.pairs xs)), (Filler.dl (d17.x)), (Filler.dl (g.set (d17.x) (ByteArray.mk (Array.mk [(109 : UInt8)])) (ByteArray.mk (Array.mk [])))), (Filler.dl []), (Filler.val (Value.int IntKind.i64 (0 : Int)))]) ∧ ((G d21) ∧ (∀ (d22 : OrC), ((G d22) → ((((decide ((d22.i) < (32 : Int))) = true) → ((((0 : Int) < (26 : Int)) ∧ (((-9223372036854775808 : Int) ≤ (d22.i)) ∧ ((d22.i) ≤ (9223372036854775807 : Int)))) ∧ ((((-9223372036854775808 : Int) ≤ ((97 : Int) + (std.quo (d22.i) (26 : Int)))) ∧ (((97 : Int) + (std.quo (d22.i) (26 : Int))) ≤ (9223372036854775807 : Int))) ∧ (((0 : Int) < (26 : Int)) ∧ ((((-9223372036854775808 : Int) ≤ ((97 : Int) + (std.rem (d22.i) (26 : Int)))) ∧ (((97 : Int) + (std.rem (d22.i) (26 : Int))) ≤ (9223372036854775807 : Int))) ∧ ((((std.slen (ByteArray.mk (Array.mk [(107 : UInt8)]))) + (std.slen (std.sof (std.ints [(Value.int IntKind.u8 (std.wrap IntKind.u8 ((97 : Int) + (std.quo (d22.i) (26 : Int))))), (Value.int IntKind.u8 (std.wrap IntKind.u8 ((97 : Int) + (std.rem (d22.i) (26 : Int)))))])))) ≤ 9223372036854775807) ∧ (((List.length (d22.f)) ≤ 1000000) ∧ ((((g.setok (d22.f) ((ByteArray.mk (Array.mk [(107 : UInt8)])) ++ (std.sof (std.ints [(Value.int IntKind.u8 (std.wrap IntKind.u8 ((97 : Int) + (std.quo (d22.i) (26 : Int))))), (Value.int IntKind.u8 (std.wrap IntKind.u8 ((97 : Int) + (std.rem (d22.i) (26 : Int)))))]))) (ByteArray.mk (Array.mk []))) = true) → ((((decide ((d22.i) < (30 : Int))) = true) → ((((-9223372036854775808 : Int) ≤ ((d22.i) + (1 : Int))) ∧ (((d22.i) + (1 : Int)) ≤ (9223372036854775807 : Int))) ∧ (∃ (d27 : OrC), (([(Filler.val (Value.int IntKind.i64 n)), (Filler.dl (g.pairs xs)), (Filler.dl (d27.x)), (Filler.dl (d27.y)), (Filler.dl (d27.f)), (Filler.val (Value.int IntKind.i64 (d27.i)))] = [(Filler.val (Value.int IntKind.i64 n)), (Filler.dl (g.pairs xs)), (Filler.dl (d22.x)), (Filler.dl (d22.y)), (Filler.dl (g.set (d22.f) ((ByteArray.mk (Array.mk [(107 : UInt8)])) ++ (std.sof (std.ints [(Value.int IntKind.u8 (std.wrap IntKind.u8 ((97 : Int) + (std.quo (d22.i) (26 : Int))))), (Value.int IntKind.u8 (std.wrap IntKind.u8 ((97 : Int) + (std.rem (d22.i) (26 : Int)))))]))) (ByteArray.mk (Array.mk [])))), (Filler.val (Value.int IntKind.i64 ((d22.i) + (1 : Int))))]) ∧ ((Nat.le (Nat.succ (w d27)) (w d22)) ∧ (G d27)))))) ∧ (((decide ((d22.i) < (30 : Int))) = false) → ([(Value.bool false)] = [(Value.bool true)])))) ∧ (((g.setok (d22.f) ((ByteArray.mk (Array.mk [(107 : UInt8)])) ++ (std.sof (std.ints [(Value.int IntKind.u8 (std.wrap IntKind.u8 ((97 : Int) + (std.quo (d22.i) (26 : Int))))), (Value.int IntKind.u8 (std.wrap IntKind.u8 ((97 : Int) + (std.rem (d22.i) (26 : Int)))))]))) (ByteArray.mk (Array.mk []))) = false) → ((((decide ((d22.i) < (30 : Int))) = true) → ([(Value.bool false)] = [(Value.bool true)])) ∧ (((decide ((d22.i) < (30 : Int))) = false) → ((((-9223372036854775808 : Int) ≤ ((d22.i) + (1 : Int))) ∧ (((d22.i) + (1 : Int)) ≤ (9223372036854775807 : Int))) ∧ (∃ (d27 : OrC), (([(Filler.val (Value.int IntKind.i64 n)), (Filler.dl (g.pairs xs)), (Filler.dl (d27.x)), (Filler.dl (d27.y)), (Filler.dl (d27.f)), (Filler.val (Value.int IntKind.i64 (d27.i)))] = [(Filler.val (Value.int IntKind.i64 n)), (Filler.dl (g.pairs xs)), (Filler.dl (d22.x)), (Filler.dl (d22.y)), (Filler.dl (g.set (d22.f) ((ByteArray.mk (Array.mk [(107 : UInt8)])) ++ (std.sof (std.ints [(Value.int IntKind.u8 (std.wrap IntKind.u8 ((97 : Int) + (std.quo (d22.i) (26 : Int))))), (Value.int IntKind.u8 (std.wrap IntKind.u8 ((97 : Int) + (std.rem (d22.i) (26 : Int)))))]))) (ByteArray.mk (Array.mk [])))), (Filler.val (Value.int IntKind.i64 ((d22.i) + (1 : Int))))]) ∧ ((Nat.le (Nat.succ (w d27)) (w d22)) ∧ (G d27)))))))))))))))) ∧ (((decide ((d22.i) < (32 : Int))) = false) → ((((!(((List.length (d22.f)) : Int) == (30 : Int))) = true) → ([(Value.bool false)] = [(Value.bool true)])) ∧ (((!(((List.length (d22.f)) : Int) == (30 : Int))) = false) → ((((-9223372036854775808 : Int) ≤ (((List.length (d22.f)) : Int) - (1 : Int))) ∧ ((((List.length (d22.f)) : Int) - (1 : Int)) ≤ (9223372036854775807 : Int))) ∧ (((((-9223372036854775808 : Int) ≤ n) ∧ (n ≤ (9223372036854775807 : Int))) ∧ (((-1000000000000 : Int) ≤ (0 : Int)) ∧ (((0 : Int) ≤ (((List.length (d22.f)) : Int) - (1 : Int))) ∧ ((((List.length (d22.f)) : Int) - (1 : Int)) ≤ (2000000000000 : Int))))) ∧ ((((0 : Int) ≤ (g.wi n (0 : Int) (((List.length (d22.f)) : Int) - (1 : Int)))) ∧ ((g.wi n (0 : Int) (((List.length (d22.f)) : Int) - (1 : Int))) < ((List.length (d22.f)) : Int))) ∧ (((List.length (d22.f)) ≤ 1000000) ∧ ((((g.setok (d22.f) (kP (d22.f) (Int.toNat (g.wi n (0 : Int) (((List.length (d22.f)) : Int) - (1 : Int))))) (ByteArray.mk (Array.mk [(110 : UInt8), (101 : UInt8), (119 : UInt8)]))) = true) → (((List.length (d22.x)) ≤ 1000000) ∧ ((((g.same (d22.x) (g.pairs xs)) = true) → (((List.length (d22.y)) ≤ 1000000) ∧ (((List.length (g.del (d22.y) (ByteArray.mk (Array.mk [(109 : UInt8)])))) ≤ 1000000) ∧ ((((g.same (g.del (d22.y) (ByteArray.mk (Array.mk [(109 : UInt8)]))) (g.pairs xs)) = true) → (((((((List.length (g.set (d22.f) (kP (d22.f) (Int.toNat (g.wi n (0 : Int) (((List.length (d22.f)) : Int) - (1 : Int))))) (ByteArray.mk (Array.mk [(110 : UInt8), (101 : UInt8), (119 : UInt8)])))) : Nat) : Int) == ((List.length (d22.f)) : Int)) = true) → (((List.length (d22.f)) ≤ 1000000) ∧ ((((g.right (d22.f)) = true) → ([(Value.bool true)] = [(Value.bool true)])) ∧ (((g.right (d22.f)) = false) → ([(Value.bool false)] = [(Value.bool true)]))))) ∧ ((((((List.length (g.set (d22.f) (kP (d22.f) (Int.toNat (g.wi n (0 : Int) (((List.length (d22.f)) : Int) - (1 : Int))))) (ByteArray.mk (Array.mk [(110 : UInt8), (101 : UInt8), (119 : UInt8)])))) : Nat) : Int) == ((List.length (d22.f)) : Int)) = false) → ([(Value.bool false)] = [(Value.bool true)])))) ∧ (((g.same (g.del (d22.y) (ByteArray.mk (Array.mk [(109 : UInt8)]))) (g.pairs xs)) = false) → ([(Value.bool false)] = [(Value.bool true)])))))) ∧ (((g.same (d22.x) (g.pairs xs)) = false) → ([(Value.bool false)] = [(Value.bool true)]))))) ∧ (((g.setok (d22.f) (kP (d22.f) (Int.toNat (g.wi n (0 : Int) (((List.length (d22.f)) : Int) - (1 : Int))))) (ByteArray.mk (Array.mk [(110 : UInt8), (101 : UInt8), (119 : UInt8)]))) = false) → (((List.length (d22.x)) ≤ 1000000) ∧ ((((g.same (d22.x) (g.pairs xs)) = true) → (((List.length (d22.y)) ≤ 1000000) ∧ (((List.length (g.del (d22.y) (ByteArray.mk (Array.mk [(109 : UInt8)])))) ≤ 1000000) ∧ ((((g.same (g.del (d22.y) (ByteArray.mk (Array.mk [(109 : UInt8)]))) (g.pairs xs)) = true) → ([(Value.bool false)] = [(Value.bool true)])) ∧ (((g.same (g.del (d22.y) (ByteArray.mk (Array.mk [(109 : UInt8)]))) (g.pairs xs)) = false) → ([(Value.bool false)] = [(Value.bool true)])))))) ∧ (((g.same (d22.x) (g.pairs xs)) = false) → ([(Value.bool false)] = [(Value.bool true)])))))))))))))))))))
def order_vc_L2 (g : KvF) (xs : List Value) (n : Int) (J : OrB → Prop) (q : OrB → Nat) (G : OrC → Prop) (w : OrC → Nat) (d13 : OrA) : Prop :=
  (∃ (d16 : OrB), (([(Filler.val (Value.int IntKind.i64 n)), (Filler.dl (g.pairs xs)), (Filler.dl (d16.x)), (Filler.dl (d16.tu)), (Filler.val (Value.int IntKind.i64 (d16.n))), (Filler.val (Value.int IntKind.i64 (d16.i)))] = [(Filler.val (Value.int IntKind.i64 n)), (Filler.dl (g.pairs xs)), (Filler.dl []), (Filler.dl (d13.tu)), (Filler.val (Value.int IntKind.i64 ((List.length (d13.tu)) : Int))), (Filler.val (Value.int IntKind.i64 (0 : Int)))]) ∧ ((J d16) ∧ (∀ (d17 : OrB), ((J d17) → ((((decide ((d17.i) < (d17.n))) = true) → ((((0 : Int) ≤ (d17.i)) ∧ ((d17.i) < ((List.length (d17.tu)) : Int))) ∧ (((List.length (d17.x)) ≤ 1000000) ∧ ((((g.setok (d17.x) (kP (d17.tu) (Int.toNat (d17.i))) (ByteArray.mk (Array.mk [(110 : UInt8), (111 : UInt8)]))) = true) → (((List.length (g.set (d17.x) (kP (d17.tu) (Int.toNat (d17.i))) (ByteArray.mk (Array.mk [(110 : UInt8), (111 : UInt8)])))) ≤ 1000000) ∧ ((((g.setok (g.set (d17.x) (kP (d17.tu) (Int.toNat (d17.i))) (ByteArray.mk (Array.mk [(110 : UInt8), (111 : UInt8)]))) (kP (d17.tu) (Int.toNat (d17.i))) (vP (d17.tu) (Int.toNat (d17.i)))) = true) → ((((-9223372036854775808 : Int) ≤ ((d17.i) + (1 : Int))) ∧ (((d17.i) + (1 : Int)) ≤ (9223372036854775807 : Int))) ∧ (∃ (d22 : OrB), (([(Filler.val (Value.int IntKind.i64 n)), (Filler.dl (g.pairs xs)), (Filler.dl (d22.x)), (Filler.dl (d22.tu)), (Filler.val (Value.int IntKind.i64 (d22.n))), (Filler.val (Value.int IntKind.i64 (d22.i)))] = [(Filler.val (Value.int IntKind.i64 n)), (Filler.dl (g.pairs xs)), (Filler.dl (g.set (g.set (d17.x) (kP (d17.tu) (Int.toNat (d17.i))) (ByteArray.mk (Array.mk [(110 : UInt8), (111 : UInt8)]))) (kP (d17.tu) (Int.toNat (d17.i))) (vP (d17.tu) (Int.toNat (d17.i))))), (Filler.dl (d17.tu)), (Filler.val (Value.int IntKind.i64 (d17.n))), (Filler.val (Value.int IntKind.i64 ((d17.i) + (1 : Int))))]) ∧ ((Nat.le (Nat.succ (q d22)) (q d17)) ∧ (J d22)))))) ∧ (((g.setok (g.set (d17.x) (kP (d17.tu) (Int.toNat (d17.i))) (ByteArray.mk (Array.mk [(110 : UInt8), (111 : UInt8)]))) (kP (d17.tu) (Int.toNat (d17.i))) (vP (d17.tu) (Int.toNat (d17.i)))) = false) → ((((-9223372036854775808 : Int) ≤ ((d17.i) + (1 : Int))) ∧ (((d17.i) + (1 : Int)) ≤ (9223372036854775807 : Int))) ∧ (∃ (d22 : OrB), (([(Filler.val (Value.int IntKind.i64 n)), (Filler.dl (g.pairs xs)), (Filler.dl (d22.x)), (Filler.dl (d22.tu)), (Filler.val (Value.int IntKind.i64 (d22.n))), (Filler.val (Value.int IntKind.i64 (d22.i)))] = [(Filler.val (Value.int IntKind.i64 n)), (Filler.dl (g.pairs xs)), (Filler.dl (g.set (g.set (d17.x) (kP (d17.tu) (Int.toNat (d17.i))) (ByteArray.mk (Array.mk [(110 : UInt8), (111 : UInt8)]))) (kP (d17.tu) (Int.toNat (d17.i))) (vP (d17.tu) (Int.toNat (d17.i))))), (Filler.dl (d17.tu)), (Filler.val (Value.int IntKind.i64 (d17.n))), (Filler.val (Value.int IntKind.i64 ((d17.i) + (1 : Int))))]) ∧ ((Nat.le (Nat.succ (q d22)) (q d17)) ∧ (J d22))))))))) ∧ (((g.setok (d17.x) (kP (d17.tu) (Int.toNat (d17.i))) (ByteArray.mk (Array.mk [(110 : UInt8), (111 : UInt8)]))) = false) → (((List.length (g.set (d17.x) (kP (d17.tu) (Int.toNat (d17.i))) (ByteArray.mk (Array.mk [(110 : UInt8), (111 : UInt8)])))) ≤ 1000000) ∧ ((((g.setok (g.set (d17.x) (kP (d17.tu) (Int.toNat (d17.i))) (ByteArray.mk (Array.mk [(110 : UInt8), (111 : UInt8)]))) (kP (d17.tu) (Int.toNat (d17.i))) (vP (d17.tu) (Int.toNat (d17.i)))) = true) → ((((-9223372036854775808 : Int) ≤ ((d17.i) + (1 : Int))) ∧ (((d17.i) + (1 : Int)) ≤ (9223372036854775807 : Int))) ∧ (∃ (d22 : OrB), (([(Filler.val (Value.int IntKind.i64 n)), (Filler.dl (g.pairs xs)), (Filler.dl (d22.x)), (Filler.dl (d22.tu)), (Filler.val (Value.int IntKind.i64 (d22.n))), (Filler.val (Value.int IntKind.i64 (d22.i)))] = [(Filler.val (Value.int IntKind.i64 n)), (Filler.dl (g.pairs xs)), (Filler.dl (g.set (g.set (d17.x) (kP (d17.tu) (Int.toNat (d17.i))) (ByteArray.mk (Array.mk [(110 : UInt8), (111 : UInt8)]))) (kP (d17.tu) (Int.toNat (d17.i))) (vP (d17.tu) (Int.toNat (d17.i))))), (Filler.dl (d17.tu)), (Filler.val (Value.int IntKind.i64 (d17.n))), (Filler.val (Value.int IntKind.i64 ((d17.i) + (1 : Int))))]) ∧ ((Nat.le (Nat.succ (q d22)) (q d17)) ∧ (J d22)))))) ∧ (((g.setok (g.set (d17.x) (kP (d17.tu) (Int.toNat (d17.i))) (ByteArray.mk (Array.mk [(110 : UInt8), (111 : UInt8)]))) (kP (d17.tu) (Int.toNat (d17.i))) (vP (d17.tu) (Int.toNat (d17.i)))) = false) → ((((-9223372036854775808 : Int) ≤ ((d17.i) + (1 : Int))) ∧ (((d17.i) + (1 : Int)) ≤ (9223372036854775807 : Int))) ∧ (∃ (d22 : OrB), (([(Filler.val (Value.int IntKind.i64 n)), (Filler.dl (g.pairs xs)), (Filler.dl (d22.x)), (Filler.dl (d22.tu)), (Filler.val (Value.int IntKind.i64 (d22.n))), (Filler.val (Value.int IntKind.i64 (d22.i)))] = [(Filler.val (Value.int IntKind.i64 n)), (Filler.dl (g.pairs xs)), (Filler.dl (g.set (g.set (d17.x) (kP (d17.tu) (Int.toNat (d17.i))) (ByteArray.mk (Array.mk [(110 : UInt8), (111 : UInt8)]))) (kP (d17.tu) (Int.toNat (d17.i))) (vP (d17.tu) (Int.toNat (d17.i))))), (Filler.dl (d17.tu)), (Filler.val (Value.int IntKind.i64 (d17.n))), (Filler.val (Value.int IntKind.i64 ((d17.i) + (1 : Int))))]) ∧ ((Nat.le (Nat.succ (q d22)) (q d17)) ∧ (J d22))))))))))))) ∧ (((decide ((d17.i) < (d17.n))) = false) → (((List.length (d17.x)) ≤ 1000000) ∧ ((((g.setok (d17.x) (ByteArray.mk (Array.mk [(109 : UInt8)])) (ByteArray.mk (Array.mk []))) = true) → (order_vc_L1 g xs n G w d17)) ∧ (((g.setok (d17.x) (ByteArray.mk (Array.mk [(109 : UInt8)])) (ByteArray.mk (Array.mk []))) = false) → (order_vc_L1 g xs n G w d17)))))))))))
def order_vc_L3 (g : KvF) (xs : List Value) (os : List Value) (n : Int) (I : OrA → Prop) (m : OrA → Nat) (J : OrB → Prop) (q : OrB → Nat) (G : OrC → Prop) (w : OrC → Nat) : Prop :=
  (∃ (d12 : OrA), (([(Filler.dl os), (Filler.val (Value.int IntKind.i64 n)), (Filler.dl (g.pairs xs)), (Filler.dl (d12.tu)), (Filler.val (Value.int IntKind.i64 (d12.i)))] = [(Filler.dl os), (Filler.val (Value.int IntKind.i64 n)), (Filler.dl (g.pairs xs)), (Filler.dl (g.pairs xs)), (Filler.val (Value.int IntKind.i64 (0 : Int)))]) ∧ ((I d12) ∧ (∀ (d13 : OrA), ((I d13) → ((((decide ((d13.i) < ((List.length os) : Int))) = true) → ((((decide ((1 : Int) < ((List.length (d13.tu)) : Int))) = true) → ((((0 : Int) ≤ (d13.i)) ∧ ((d13.i) < ((List.length os) : Int))) ∧ ((((-9223372036854775808 : Int) ≤ (((List.length (d13.tu)) : Int) - (1 : Int))) ∧ ((((List.length (d13.tu)) : Int) - (1 : Int)) ≤ (9223372036854775807 : Int))) ∧ (((((-9223372036854775808 : Int) ≤ (eI os (Int.toNat (d13.i)))) ∧ ((eI os (Int.toNat (d13.i))) ≤ (9223372036854775807 : Int))) ∧ (((-1000000000000 : Int) ≤ (0 : Int)) ∧ (((0 : Int) ≤ (((List.length (d13.tu)) : Int) - (1 : Int))) ∧ ((((List.length (d13.tu)) : Int) - (1 : Int)) ≤ (2000000000000 : Int))))) ∧ ((((0 : Int) ≤ (g.wi (eI os (Int.toNat (d13.i))) (0 : Int) (((List.length (d13.tu)) : Int) - (1 : Int)))) ∧ ((g.wi (eI os (Int.toNat (d13.i))) (0 : Int) (((List.length (d13.tu)) : Int) - (1 : Int))) < ((List.length (d13.tu)) : Int))) ∧ ((((List.length [(Value.agg (Array.mk [(Value.string (kP (d13.tu) (Int.toNat (g.wi (eI os (Int.toNat (d13.i))) (0 : Int) (((List.length (d13.tu)) : Int) - (1 : Int)))))), (Value.string (vP (d13.tu) (Int.toNat (g.wi (eI os (Int.toNat (d13.i))) (0 : Int) (((List.length (d13.tu)) : Int) - (1 : Int))))))]))]) * 32) ≤ 140737488355328) ∧ (((((0 : Int) ≤ (g.wi (eI os (Int.toNat (d13.i))) (0 : Int) (((List.length (d13.tu)) : Int) - (1 : Int)))) ∧ ((g.wi (eI os (Int.toNat (d13.i))) (0 : Int) (((List.length (d13.tu)) : Int) - (1 : Int))) ≤ ((List.length (d13.tu)) : Int))) ∧ True) ∧ ((((List.length ([(Value.agg (Array.mk [(Value.string (kP (d13.tu) (Int.toNat (g.wi (eI os (Int.toNat (d13.i))) (0 : Int) (((List.length (d13.tu)) : Int) - (1 : Int)))))), (Value.string (vP (d13.tu) (Int.toNat (g.wi (eI os (Int.toNat (d13.i))) (0 : Int) (((List.length (d13.tu)) : Int) - (1 : Int))))))]))] ++ (List.take ((Int.toNat (g.wi (eI os (Int.toNat (d13.i))) (0 : Int) (((List.length (d13.tu)) : Int) - (1 : Int)))) - 0) (List.drop 0 (d13.tu))))) * 32) ≤ 140737488355328) ∧ ((((-9223372036854775808 : Int) ≤ ((g.wi (eI os (Int.toNat (d13.i))) (0 : Int) (((List.length (d13.tu)) : Int) - (1 : Int))) + (1 : Int))) ∧ (((g.wi (eI os (Int.toNat (d13.i))) (0 : Int) (((List.length (d13.tu)) : Int) - (1 : Int))) + (1 : Int)) ≤ (9223372036854775807 : Int))) ∧ ((True ∧ (((0 : Int) ≤ ((g.wi (eI os (Int.toNat (d13.i))) (0 : Int) (((List.length (d13.tu)) : Int) - (1 : Int))) + (1 : Int))) ∧ (((g.wi (eI os (Int.toNat (d13.i))) (0 : Int) (((List.length (d13.tu)) : Int) - (1 : Int))) + (1 : Int)) ≤ ((List.length (d13.tu)) : Int)))) ∧ ((((List.length (([(Value.agg (Array.mk [(Value.string (kP (d13.tu) (Int.toNat (g.wi (eI os (Int.toNat (d13.i))) (0 : Int) (((List.length (d13.tu)) : Int) - (1 : Int)))))), (Value.string (vP (d13.tu) (Int.toNat (g.wi (eI os (Int.toNat (d13.i))) (0 : Int) (((List.length (d13.tu)) : Int) - (1 : Int))))))]))] ++ (List.take ((Int.toNat (g.wi (eI os (Int.toNat (d13.i))) (0 : Int) (((List.length (d13.tu)) : Int) - (1 : Int)))) - 0) (List.drop 0 (d13.tu)))) ++ (List.take ((List.length (d13.tu)) - (Int.toNat ((g.wi (eI os (Int.toNat (d13.i))) (0 : Int) (((List.length (d13.tu)) : Int) - (1 : Int))) + (1 : Int)))) (List.drop (Int.toNat ((g.wi (eI os (Int.toNat (d13.i))) (0 : Int) (((List.length (d13.tu)) : Int) - (1 : Int))) + (1 : Int))) (d13.tu))))) * 32) ≤ 140737488355328) ∧ ((((-9223372036854775808 : Int) ≤ ((d13.i) + (1 : Int))) ∧ (((d13.i) + (1 : Int)) ≤ (9223372036854775807 : Int))) ∧ (∃ (d17 : OrA), (([(Filler.dl os), (Filler.val (Value.int IntKind.i64 n)), (Filler.dl (g.pairs xs)), (Filler.dl (d17.tu)), (Filler.val (Value.int IntKind.i64 (d17.i)))] = [(Filler.dl os), (Filler.val (Value.int IntKind.i64 n)), (Filler.dl (g.pairs xs)), (Filler.dl (([(Value.agg (Array.mk [(Value.string (kP (d13.tu) (Int.toNat (g.wi (eI os (Int.toNat (d13.i))) (0 : Int) (((List.length (d13.tu)) : Int) - (1 : Int)))))), (Value.string (vP (d13.tu) (Int.toNat (g.wi (eI os (Int.toNat (d13.i))) (0 : Int) (((List.length (d13.tu)) : Int) - (1 : Int))))))]))] ++ (List.take ((Int.toNat (g.wi (eI os (Int.toNat (d13.i))) (0 : Int) (((List.length (d13.tu)) : Int) - (1 : Int)))) - 0) (List.drop 0 (d13.tu)))) ++ (List.take ((List.length (d13.tu)) - (Int.toNat ((g.wi (eI os (Int.toNat (d13.i))) (0 : Int) (((List.length (d13.tu)) : Int) - (1 : Int))) + (1 : Int)))) (List.drop (Int.toNat ((g.wi (eI os (Int.toNat (d13.i))) (0 : Int) (((List.length (d13.tu)) : Int) - (1 : Int))) + (1 : Int))) (d13.tu))))), (Filler.val (Value.int IntKind.i64 ((d13.i) + (1 : Int))))]) ∧ ((Nat.le (Nat.succ (m d17)) (m d13)) ∧ (I d17)))))))))))))))) ∧ (((decide ((1 : Int) < ((List.length (d13.tu)) : Int))) = false) → (order_vc_L2 g xs n J q G w d13)))) ∧ (((decide ((d13.i) < ((List.length os) : Int))) = false) → (order_vc_L2 g xs n J q G w d13))))))))
end Go.Proofs.Ytledddhagpgfaaa
end
section
namespace Go.Proofs.Ytledddhagpgfaaa
open Go.RowKit Go.Abs Go
/-- Ordered rows of the same pairs are the same. -/
theorem ord_ext : ∀ {l m : List Value}, Ord l → Ord m → (∀ x, x ∈ l ↔ x ∈ m) → l = m
  | [], [], _, _, _ => rfl
  | [], b :: m, _, _, h => by have := (h b).2 (List.mem_cons_self ..); cases this
  | a :: l, [], _, _, h => by have := (h a).1 (List.mem_cons_self ..); cases this
  | a :: l, b :: m, h1, h2, h => by
    obtain ⟨a1, o1⟩ := List.pairwise_cons.1 h1
    obtain ⟨a2, o2⟩ := List.pairwise_cons.1 h2
    have e : a = b := by
      rcases List.mem_cons.1 ((h a).1 (List.mem_cons_self ..)) with e | ha
      · exact e
      · rcases List.mem_cons.1 ((h b).2 (List.mem_cons_self ..)) with e | hb
        · exact e.symm
        · have := lt_trans (a1 b hb) (a2 a ha)
          rw [lt_irrefl] at this; cases this
    subst e
    rw [ord_ext o1 o2 fun x => ⟨fun hx => ?_, fun hx => ?_⟩]
    · rcases List.mem_cons.1 ((h x).1 (List.mem_cons_of_mem _ hx)) with e | hm
      · subst e; have := a1 x hx; rw [lt_irrefl] at this; cases this
      · exact hm
    · rcases List.mem_cons.1 ((h x).2 (List.mem_cons_of_mem _ hx)) with e | hm
      · subst e; have := a2 x hx; rw [lt_irrefl] at this; cases this
      · exact hm
/-- What is in a row that was set. -/
theorem rset_mem {l : List Value} (ho : Ord l) (k v : ByteArray) : (∀ y, y ∈ rsetF l k v ↔ y = prV k v ∨ y ∈ l ∧ keyV y ≠ k) ∧
    (((∃ x ∈ l, keyV x = k) ∧ (rsetF l k v).length = l.length ∧ fdF l k = true) ∨ ((∀ x ∈ l, keyV x ≠ k) ∧ (rsetF l k v).length = l.length + 1 ∧ fdF l k = false)) := by
  obtain ⟨r, hr, hle, h1, h2, h3⟩ := split_at k ho
  rw [fd_eq k ho]
  unfold rsetF putF
  rw [hr, Int.toNat_natCast]
  rw [hr, Int.toNat_natCast] at h2 h3
  have ne1 : ∀ x ∈ l.take r, keyV x ≠ k := fun x hx e => by have := h1 x hx; rw [e, lt_irrefl] at this; cases this
  have hl : ∀ y, y ∈ l ↔ y ∈ l.take r ∨ y ∈ l.drop r := fun y => by
    have := List.take_append_drop r l
    rw [← List.mem_append, this]
  cases hc : (decide ((r : Int) < (l.length : Int)) && eqB (kP l r) k) with
  | true =>
    obtain ⟨hlt, h4, h5⟩ := h3 hc
    have ne2 : ∀ x ∈ l.drop (r + 1), keyV x ≠ k := fun x hx e => by have := h5 x hx; rw [e, lt_irrefl] at this; cases this
    have hd : l.drop r = l[r] :: l.drop (r + 1) := List.drop_eq_getElem_cons hlt
    rw [if_pos rfl]
    refine ⟨fun y => ?_, .inl ⟨⟨l[r], List.getElem_mem hlt, h4⟩, ?_, rfl⟩⟩
    · rw [hl y, hd]
      simp only [List.mem_append, List.mem_cons, List.not_mem_nil, or_false]
      constructor
      · rintro ((h | h) | h)
        · exact .inr ⟨.inl h, ne1 y h⟩
        · exact .inl h
        · exact .inr ⟨.inr (.inr h), ne2 y h⟩
      · rintro (h | ⟨h | h | h, hk⟩)
        · exact .inl (.inr h)
        · exact .inl (.inl h)
        · rw [h] at hk; exact absurd h4 hk
        · exact .inr h
    · simp only [List.length_append, List.length_take, List.length_drop, List.length_cons, List.length_nil]; omega
  | false =>
    have ne2 : ∀ x ∈ l.drop r, keyV x ≠ k := fun x hx e => by have := h2 hc x hx; rw [e, lt_irrefl] at this; cases this
    rw [if_neg Bool.false_ne_true]
    refine ⟨fun y => ?_, .inr ⟨fun x hx => ?_, ?_, rfl⟩⟩
    · rw [hl y]
      simp only [List.mem_append, List.mem_cons, List.not_mem_nil, or_false]
      constructor
      · rintro ((h | h) | h)
        · exact .inr ⟨.inl h, ne1 y h⟩
        · exact .inl h
        · exact .inr ⟨.inr h, ne2 y h⟩
      · rintro (h | ⟨h | h, hk⟩)
        · exact .inl (.inr h)
        · exact .inl (.inl h)
        · exact .inr h
    · rcases (hl x).1 hx with h | h
      · exact ne1 x h
      · exact ne2 x h
    · simp only [List.length_append, List.length_take, List.length_drop, List.length_cons, List.length_nil]; omega
theorem set_mem {l : List Value} (h : RightL l) {k v : ByteArray} (hm : mayF k v = true) (hroom : l.length < 30 ∨ ∃ x ∈ l, keyV x = k) : RightL (setF l k v) ∧ (∀ y, y ∈ setF l k v ↔ y = prV k v ∨ y ∈ l ∧ keyV y ≠ k) ∧
    (((∃ x ∈ l, keyV x = k) ∧ (setF l k v).length = l.length) ∨ ((∀ x ∈ l, keyV x ≠ k) ∧ (setF l k v).length = l.length + 1)) := by
  have ho := ((right_iff l).1 h.1).2.1
  obtain ⟨h1, h2⟩ := rset_mem ho k v
  have hok : setokF l k v = true := by
    unfold setokF
    rw [hm, Bool.true_and, Bool.or_eq_true]
    rcases hroom with hr | ⟨x, hx, he⟩
    · right; rw [decide_eq_true_eq]; omega
    · left
      rcases h2 with ⟨_, _, h3⟩ | ⟨h3, _⟩
      · exact h3
      · exact absurd he (h3 x hx)
  obtain ⟨e, hr⟩ := set_rset h hok
  rw [e]
  exact ⟨hr, h1, h2.imp (fun h => ⟨h.1, h.2.1⟩) fun h => ⟨h.1, h.2.1⟩⟩
def mB : ByteArray := ⟨#[109]⟩
def noW : ByteArray := ⟨#[110, 111]⟩
def newW : ByteArray := ⟨#[110, 101, 119]⟩
/-- The pairs of a step of KvOrder's second loop. -/
theorem two_sets {l : List Value} (h : RightL l) {k v : ByteArray} (hm : mayF k v = true) (hroom : l.length < 30) (hn : ∀ x ∈ l, keyV x ≠ k) :
    RightL (setF (setF l k noW) k v) ∧ (setF l k noW).length ≤ 30 ∧ (setF (setF l k noW) k v).length = l.length + 1 ∧ ∀ y, y ∈ setF (setF l k noW) k v ↔ y ∈ l ∨ y = prV k v := by
  have hm1 : mayF k noW = true := by
    unfold mayF at hm ⊢
    simp only [Bool.and_eq_true] at hm ⊢
    exact ⟨hm.1, hm.2.1, rfl⟩
  obtain ⟨r1, m1, l1⟩ := set_mem h hm1 (.inl hroom)
  have hlen1 : (setF l k noW).length = l.length + 1 := by
    rcases l1 with ⟨⟨x, hx, he⟩, _⟩ | ⟨_, h2⟩
    · exact absurd he (hn x hx)
    · exact h2
  have hin : prV k noW ∈ setF l k noW := (m1 _).2 (.inl rfl)
  obtain ⟨r2, m2, l2⟩ := set_mem r1 hm (.inr ⟨_, hin, rfl⟩)
  refine ⟨r2, by omega, ?_, fun y => ?_⟩
  · rcases l2 with ⟨_, h2⟩ | ⟨h2, _⟩
    · omega
    · exact absurd rfl (h2 _ hin)
  · rw [m2 y, m1 y]
    constructor
    · rintro (h | ⟨h | h, hk⟩)
      · exact .inr h
      · rw [h] at hk; exact absurd rfl hk
      · exact .inl h.1
    · rintro (h | h)
      · exact .inr ⟨.inr ⟨h, hn y h⟩, hn y h⟩
      · exact .inl h
/-- Set and taken out: as if it had never been. -/
theorem set_del {l : List Value} (h : RightL l) (hroom : l.length < 30) (hn : ∀ x ∈ l, keyV x ≠ mB) : (setF l mB noB).length ≤ 30 ∧ (dropF (setF l mB noB) mB).length ≤ 30 ∧ dropF (setF l mB noB) mB = l := by
  obtain ⟨r1, m1, _⟩ := set_mem (k := mB) (v := noB) h rfl (.inl hroom)
  have ho := ((right_iff _).1 r1.1).2
  have e : dropF (setF l mB noB) mB = l := by
    rw [drop_rdel mB r1.2 ho.1, rdel_eq mB r1.2]
    refine ord_ext (ho.1.filter _) ((right_iff l).1 h.1).2.1 fun x => ?_
    rw [List.mem_filter, m1 x]
    constructor
    · rintro ⟨h1 | h1, h2⟩
      · rw [h1] at h2; cases h2
      · exact h1.1
    · intro hx
      refine ⟨.inr ⟨hx, hn x hx⟩, ?_⟩
      cases c : eqB (keyV x) mB with
      | false => rfl
      | true => exact absurd (eqB_iff.1 c) (hn x hx)
  exact ⟨ho.2, by rw [e]; omega, e⟩
/-- Thirty keys, and no more. -/
def keyN (i : Int) : ByteArray := ⟨#[107]⟩ ++ std.sof (std.ints [.int .u8 (std.wrap .u8 (97 + std.quo i 26)), .int .u8 (std.wrap .u8 (97 + std.rem i 26))])
def fullL : Nat → List Value
  | 0 => []
  | i + 1 => setF (fullL i) (keyN i) noB
theorem full_ok : ∀ i, i < 32 → setokF (fullL i) (keyN i) noB = decide (i < 30) ∧ (fullL i).length ≤ 30 ∧ std.slen (std.sof (std.ints [Value.int .u8 (std.wrap .u8 (97 + std.quo i 26)), Value.int .u8 (std.wrap .u8 (97 + std.rem i 26))])) ≤ 100 := by decide +kernel
theorem full_len : (fullL 32).length = 30 ∧ rightF mayF (fullL 32) = true := by decide +kernel
theorem full_new : ∀ k, k < 30 → setokF (fullL 32) (kP (fullL 32) k) newW = true ∧ (setF (fullL 32) (kP (fullL 32) k) newW).length = 30 := by decide +kernel
theorem pairs_keys (xs : List Value) : (pairsF xs).length ≤ 12 ∧ ∀ x ∈ pairsF xs, keyV x ≠ mB := by
  refine ⟨outL_len _ 12, fun x hx => ?_⟩
  obtain ⟨j, s, h1, rfl, _⟩ := out_mem (es_vals xs _) hx
  have : ∀ j, j < 12 → eqB (eS keysV j) mB = false := by decide +kernel
  intro e
  have h2 := this j h1
  rw [show eS keysV j = mB from e, eqB_iff.2 rfl] at h2
  cases h2
/-- A row turned. -/
theorem turn_perm {l : List Value} (hw : Wf l) {k : Nat} (hk : k < l.length) : (([prV (kP l k) (vP l k)] ++ List.take (k - 0) (List.drop 0 l)) ++ List.take (l.length - (k + 1)) (List.drop (k + 1) l)).Perm l := by
  have e : prV (kP l k) (vP l k) = l[k] := by rw [kP_get hk, vP_get hk]; exact (hw _ (List.getElem_mem hk)).symm
  rw [e, Nat.sub_zero, List.drop_zero, take_rest]
  have h2 : l = l.take k ++ l[k] :: l.drop (k + 1) := by
    rw [← List.drop_eq_getElem_cons hk, List.take_append_drop]
  conv => rhs; rw [h2]
  exact (List.perm_middle (a := l[k]) (l₁ := l.take k) (l₂ := l.drop (k + 1))).symm
end Go.Proofs.Ytledddhagpgfaaa
end
section
namespace Go.Proofs.Ytledddhagpgfaaa
open Go.RowKit Go.Abs Go
set_option maxRecDepth 100000
theorem wi_run (n lo hi : Int) (_hn : -9223372036854775808 ≤ n ∧ n ≤ 9223372036854775807) (h1 : -1000000000000 ≤ lo) (h2 : lo ≤ hi) (h3 : hi ≤ 2000000000000) : runP std noCon 40 noL (withinP std kvF) 17 Try.f17 (n, lo, hi, ()) := by
  rw [within_vc]
  have hm : std.rem n ((hi - lo) + 1) = n.tmod (hi - lo + 1) := rfl
  rw [hm]
  have b1 := Int.emod_nonneg n (show hi - lo + 1 ≠ 0 by omega)
  have b2 := Int.emod_lt_of_pos n (show 0 < hi - lo + 1 by omega)
  have key : (0 ≤ n.tmod (hi - lo + 1) ∧ n.tmod (hi - lo + 1) = n % (hi - lo + 1)) ∨ (n.tmod (hi - lo + 1) < 0 ∧ n.tmod (hi - lo + 1) + (hi - lo + 1) = n % (hi - lo + 1)) := by
    have := Int.tmod_eq_emod (a := n) (b := hi - lo + 1)
    split at this <;> rename_i c
    · left; omega
    · by_cases z : n % (hi - lo + 1) = 0
      · exfalso
        exact c (.inr (Int.dvd_of_emod_eq_zero z))
      · right; omega
  generalize n.tmod (hi - lo + 1) = r at key ⊢
  have hw : kvF.wi n lo hi = lo + n % (hi - lo + 1) := rfl
  rw [hw]
  generalize n % (hi - lo + 1) = u at key b1 b2 ⊢
  refine ⟨by omega, by omega, by omega, fun h => ⟨by have := of_decide_eq_true h; omega, by have := of_decide_eq_true h; omega, by have := of_decide_eq_true h; omega, by have := of_decide_eq_true h; omega, ?_⟩, fun h => ⟨by have := of_decide_eq_false h; omega, ?_⟩⟩
  · have := of_decide_eq_true h
    rw [show lo + (r + hi - lo + 1) = lo + u by omega]
  · have := of_decide_eq_false h
    rw [show r = u by omega]
theorem wi_ok : PFOk Try.prog 17 (withinP std kvF) :=
  pf_ok (LS := fun _ => noL) Try.progOk (noCon_ok _) (inCallF_ok 60) (withinP std kvF) Try.func17 (show _ = some (bodyS Try.prog 17) by kernel_rfl) fun d hd => wi_run d.1 d.2.1 d.2.2.1 (inI_std hd.1) hd.2.1 hd.2.2.1 hd.2.2.2
theorem wi_in2 {n lo hi : Int} (h : lo ≤ hi) : lo ≤ kvF.wi n lo hi ∧ kvF.wi n lo hi ≤ hi := by
  have b1 := Int.emod_nonneg n (show hi - lo + 1 ≠ 0 by omega)
  have b2 := Int.emod_lt_of_pos n (show 0 < hi - lo + 1 by omega)
  show lo ≤ lo + n % (hi - lo + 1) ∧ lo + n % (hi - lo + 1) ≤ hi
  omega
def inR (n : Int) : Prop := -9223372036854775808 ≤ n ∧ n ≤ 9223372036854775807
theorem sl_ints {l : List Value} (hl : ∀ x ∈ l, RawOk zI x) : IntsOk l := fun i hi => by
  obtain ⟨m, e, hw⟩ := ints_ok hl i zI hi
  unfold eI
  rw [e]; exact i64_range hw
end Go.Proofs.Ytledddhagpgfaaa
end
section
namespace Go.Proofs.Ytledddhagpgfaaa
open Go.RowKit Go.Abs Go
set_option maxRecDepth 100000
structure En where
  k : Int
  key : BS
  e : BS
  p : Int
  d : Int
  due : Int
  un : Int
def enV (_ : Int) (t : En) : Value := .agg #[.int .i64 t.k, .string t.key, .string t.e, .int .i64 t.p, .int .i64 t.d, .int .i64 t.due, .int .i64 t.un]
def decE (v : Value) : En := ⟨dint (fld v 0), dstr (fld v 1), dstr (fld v 2), dint (fld v 3), dint (fld v 4), dint (fld v 5), dint (fld v 6)⟩
def dec (es : Ents) : AM En := es.map fun a => (dint a.1, decE a.2)
theorem dec_img (A : AM En) : dec (imgM enV A) = A := by
  unfold dec imgM
  rw [List.map_map]
  conv => rhs; rw [← List.map_id A]
  exact List.map_congr_left fun a _ => rfl
def OkT (es : Ents) : Prop := ∃ A : AM En, es = imgM enV A ∧ (A.map Prod.fst).Nodup ∧ A.length ≤ 1000 ∧ ∀ a ∈ A, (-9223372036854775808 ≤ a.1 ∧ a.1 ≤ 9223372036854775807) ∧ (0 ≤ a.2.p ∧ a.2.p ≤ 1000) ∧ (0 ≤ a.2.d ∧ a.2.d ≤ 1000)
def keysM {τ : Type} (A : AM τ) : List Int := sortS (fun x y => decide (x ≤ y)) (A.map Prod.fst)
def l1 (b : Int) (t : En) : Bool := decide (0 < t.un) && decide (t.un < b)
def t1 (b : Int) (t : En) : En := if l1 b t then { t with un := 0 } else t
def a2 (b : Int) (t : En) : Bool := !(t.due == 0) && (!decide (b < t.due) && !decide (0 < t.un))
def t2 (b : Int) (t : En) : En := if a2 b t then { t with un := b + t.d, due := if 0 < t.p then b + t.p else 0 } else t
def pick {τ : Type} (A : AM τ) (p : τ → Bool) (q : Int) : Bool := match fndM A q with | some t => p t | none => false
def mapE (f : En → En) (A : AM En) : AM En := A.map fun a => (a.1, f a.2)
def lateF (b : Int) (A : AM En) : List Int := (keysM A).filter (pick A (l1 b))
def askedF (b : Int) (A : AM En) : List Int := (keysM A).filter (pick (mapE (t1 b) A) (a2 b))
def nextF (b : Int) (A : AM En) : AM En := mapE (t2 b) (mapE (t1 b) A)
def seqB (a b : BS) : Bool := a.data.toList == b.data.toList
def rqF (k : Int) (key e : BS) (p d : Int) : Bool :=
  !seqB key ⟨#[]⟩ && (!decide ((16 : Int) < (key.data.toList.length : Int)) && (!decide (p < 0) && (!decide (1000 < p) && (!decide (d < 1) && (!decide (1000 < d) &&
    (if k == 1 then seqB e ⟨#[]⟩ else k == 2 && (decide ((e.data.toList.length : Int) ≤ 16) && !Op.bytesLess e.data.toList key.data.toList)))))))
noncomputable def qrF : QrF where
  rq := rqF
  rrq := rqF
  an := fun k key e p d a es => if rqF k key e p d && !decide ((6 : Int) ≤ (es.length : Int)) then a + 1 else 0
  ae := fun k key e p d _ es => if rqF k key e p d then (if decide ((6 : Int) ≤ (es.length : Int)) then 7 else 0) else 1
  aa := fun k key e p d a es => if rqF k key e p d && !decide ((6 : Int) ≤ (es.length : Int)) then a + 1 else a
  am := fun k key e p d a b es => if rqF k key e p d && !decide ((6 : Int) ≤ (es.length : Int)) then mput zI es (kJ (a + 1)) (.agg #[.int .i64 k, .string key, .string e, .int .i64 p, .int .i64 d, .int .i64 (b + 1), .int .i64 0]) else es
  tl := fun b es => valsOf .i64 (lateF (b + 1) (dec es))
  tk := fun b es => valsOf .i64 (askedF (b + 1) (dec es))
  tm := fun b es => imgM enV (nextF (b + 1) (dec es))
  srt := srtIQ
  ok := okKQ
  okT := OkT
  de := fun id es => if mhas zI es (kJ id) then 0 else 3
  dm := fun id es => if mhas zI es (kJ id) then mdel zI es (kJ id) else es
theorem rq_run (k : Int) (key e : BS) (p d : Int) : runP std noCon 60 noL (rqP qrF) 16 Try.f16 ((k, key, e, p, d, ()), ()) := by
  refine (rq_vc qrF k key e p d).mpr ?_
  have key0 : ∀ t, rqF k key e p d = t → [Value.bool t] = [Value.bool (qrF.rq k key e p d)] := fun t ht => by rw [← ht]; rfl
  have un : ∀ {a b c x y z : Bool} {w : Bool}, seqB key ⟨#[]⟩ = a → decide ((16 : Int) < (key.data.toList.length : Int)) = b → decide (p < 0) = c → decide (1000 < p) = x → decide (d < 1) = y → decide (1000 < d) = z → (if k == 1 then seqB e ⟨#[]⟩ else k == 2 && (decide ((e.data.toList.length : Int) ≤ 16) && !Op.bytesLess e.data.toList key.data.toList)) = w → rqF k key e p d = (!a && (!b && (!c && (!x && (!y && (!z && w)))))) := by
    intro a b c x y z w h1 h2 h3 h4 h5 h6 h7
    unfold rqF
    rw [h1, h2, h3, h4, h5, h6, h7]
  refine ⟨fun h1 => key0 _ ?_, fun h1 => ⟨fun h2 => key0 _ ?_, fun h2 => ⟨fun h3 => key0 _ ?_, fun h3 => ⟨fun h4 => key0 _ ?_, fun h4 => ⟨fun h5 => key0 _ ?_, fun h5 => ⟨fun h6 => key0 _ ?_, fun h6 => ⟨fun h7 => ⟨fun h8 => key0 _ ?_, fun h8 => key0 _ ?_⟩, fun h7 => ⟨fun h8 => ⟨fun h9 => ⟨fun h10 => key0 _ ?_, fun h10 => key0 _ ?_⟩, fun h9 => key0 _ ?_⟩, fun h8 => key0 _ ?_⟩⟩⟩⟩⟩⟩⟩⟩
  · rw [un h1 rfl rfl rfl rfl rfl rfl]; rfl
  · rw [un h1 h2 rfl rfl rfl rfl rfl]; rfl
  · rw [un h1 h2 h3 rfl rfl rfl rfl]; rfl
  · rw [un h1 h2 h3 h4 rfl rfl rfl]; rfl
  · rw [un h1 h2 h3 h4 h5 rfl rfl]; rfl
  · rw [un h1 h2 h3 h4 h5 h6 rfl]; rfl
  · rw [un h1 h2 h3 h4 h5 h6 (w := true) (by rw [if_pos h7]; exact h8)]; rfl
  · rw [un h1 h2 h3 h4 h5 h6 (w := false) (by rw [if_pos h7]; exact h8)]; rfl
  · rw [un h1 h2 h3 h4 h5 h6 (w := true) (by rw [if_neg (by rw [h7]; decide), h8]; have h9 : decide ((e.data.toList.length : Int) ≤ 16) = true := h9; have h10 : (!Op.bytesLess e.data.toList key.data.toList) = true := h10; rw [h9, h10]; rfl)]; rfl
  · rw [un h1 h2 h3 h4 h5 h6 (w := false) (by rw [if_neg (by rw [h7]; decide), h8]; have h9 : decide ((e.data.toList.length : Int) ≤ 16) = true := h9; have h10 : (!Op.bytesLess e.data.toList key.data.toList) = false := h10; rw [h9, h10]; rfl)]; rfl
  · rw [un h1 h2 h3 h4 h5 h6 (w := false) (by rw [if_neg (by rw [h7]; decide), h8]; have h9 : decide ((e.data.toList.length : Int) ≤ 16) = false := h9; rw [h9]; rfl)]; rfl
  · rw [un h1 h2 h3 h4 h5 h6 (w := false) (by rw [if_neg (by rw [h7]; decide), h8]; rfl)]; rfl
theorem rq_ok : PFOk Try.prog 16 (rqP qrF) :=
  pf_ok (LS := fun _ => noL) Try.progOk (noCon_ok _) (inCallF_ok 60) (rqP qrF) Try.func16 (show _ = some (bodyS Try.prog 16) by kernel_rfl) fun d _ => rq_run d.1.1 d.1.2.1 d.1.2.2.1 d.1.2.2.2.1 d.1.2.2.2.2.1
theorem add_run (k : Int) (key e : BS) (p d a b l : Int) (es : Ents) (ha : -1000000 ≤ a ∧ a ≤ 1000000) (hb : -1000000 ≤ b ∧ b ≤ 1000000) : runW std (addCon qrF) 60 noL (addO std qrF) 10 Try.f10 (k, key, e, p, d, a, b, l, es, ()) := by
  refine (add_vc qrF k key e p d a b l es).mpr ?_
  refine ⟨trivial, ⟨fun h1 => ⟨fun h2 => ?_, fun h2 => ⟨⟨by omega, by omega⟩, ⟨⟨by omega, by omega⟩, ?_⟩⟩⟩, fun h1 => ?_⟩⟩ <;> dsimp only [qrF] at h1 ⊢
  · rw [h1, h2]; rfl
  · rw [h1, h2]; rfl
  · rw [h1]; rfl
theorem addCon_ok : ConOk Try.prog (addCon qrF) := conL_ok fun x hx => by rw [List.mem_singleton.1 hx]; exact pcon_ok rq_ok
theorem add_ok : OFOk Try.prog 10 (addO std qrF) :=
  of_ok (LS := fun _ => noL) Try.progOk addCon_ok (inCallF_ok 60) (addO std qrF) Try.func10 (show _ = some (bodyS Try.prog 10) by kernel_rfl) (by decide) rfl fun d hd => add_run d.1 d.2.1 d.2.2.1 d.2.2.2.1 d.2.2.2.2.1 d.2.2.2.2.2.1 d.2.2.2.2.2.2.1 d.2.2.2.2.2.2.2.1 d.2.2.2.2.2.2.2.2.1 hd.1 hd.2
theorem drop_run (id a b l : Int) (es : Ents) : runW std noCon 60 noL (dropO qrF) 20 Try.f20 (id, a, b, l, es, ()) := by
  refine (drop_vc qrF id a b l es).mpr ?_
  refine ⟨fun h => ?_, fun h => ?_⟩
  · have h : mhas zI es (kJ id) = true := h
    dsimp only [qrF]
    rw [h]; rfl
  · have h : mhas zI es (kJ id) = false := h
    dsimp only [qrF]
    rw [h]; rfl
theorem drop_ok : OFOk Try.prog 20 (dropO qrF) :=
  of_ok (LS := fun _ => noL) Try.progOk (noCon_ok _) (inCallF_ok 60) (dropO qrF) Try.func20 (show _ = some (bodyS Try.prog 20) by kernel_rfl) (by decide) rfl fun d _ => drop_run d.1 d.2.1 d.2.2.1 d.2.2.2.1 d.2.2.2.2.1
end Go.Proofs.Ytledddhagpgfaaa
end
section
namespace Go.Proofs.Ytledddhagpgfaaa
open Go.RowKit Go.Abs Go
set_option maxRecDepth 100000
def upd (f : En → En) (ks : List Int) (A : AM En) : AM En := A.map fun a => if a.1 ∈ ks then (a.1, f a.2) else a
theorem upd_keys (f : En → En) (ks : List Int) (A : AM En) : (upd f ks A).map Prod.fst = A.map Prod.fst := by
  unfold upd
  rw [List.map_map]
  refine List.map_congr_left fun a _ => ?_
  show (if a.1 ∈ ks then (a.1, f a.2) else a).1 = a.1
  split <;> rfl
theorem mapE_keys (f : En → En) (A : AM En) : (mapE f A).map Prod.fst = A.map Prod.fst := by
  unfold mapE
  rw [List.map_map]; rfl
theorem fnd_of {A : AM En} {q : Int} (h : q ∈ A.map Prod.fst) : ∃ t, fndM A q = some t := by
  induction A with
  | nil => cases h
  | cons a r ih =>
    unfold fndM
    split
    · exact ⟨_, rfl⟩
    · rename_i e
      rcases List.mem_cons.1 h with h | h
      · exact absurd h.symm e
      · exact ih h
theorem fnd_upd {f : En → En} {ks : List Int} {q : Int} (hq : q ∉ ks) : ∀ A : AM En, fndM (upd f ks A) q = fndM A q
  | [] => rfl
  | a :: r => by
    show fndM ((if a.1 ∈ ks then (a.1, f a.2) else a) :: upd f ks r) q = fndM (a :: r) q
    unfold fndM
    have e1 : (if a.1 ∈ ks then (a.1, f a.2) else a).1 = a.1 := by split <;> rfl
    rw [e1]
    by_cases e : a.1 = q
    · rw [if_pos e, if_pos e, if_neg (by rw [e]; exact hq)]
    · rw [if_neg e, if_neg e, fnd_upd hq r]
theorem upd_out {f : En → En} {ks : List Int} {q : Int} : ∀ {A : AM En}, q ∉ A.map Prod.fst → upd f (ks ++ [q]) A = upd f ks A
  | [], _ => rfl
  | a :: r, h => by
    rw [List.map_cons, List.mem_cons, not_or] at h
    show (if a.1 ∈ ks ++ [q] then (a.1, f a.2) else a) :: upd f (ks ++ [q]) r = (if a.1 ∈ ks then (a.1, f a.2) else a) :: upd f ks r
    have e : (a.1 ∈ ks ++ [q]) ↔ a.1 ∈ ks := by
      rw [List.mem_append, List.mem_singleton]
      exact ⟨fun h2 => h2.elim id fun h3 => absurd h3.symm h.1, .inl⟩
    rw [upd_out h.2]
    by_cases h2 : a.1 ∈ ks
    · rw [if_pos h2, if_pos (e.2 h2)]
    · rw [if_neg h2, if_neg (fun h3 => h2 (e.1 h3))]
theorem upd_put {f : En → En} {ks : List Int} {q : Int} {t : En} (hq : q ∉ ks) : ∀ {A : AM En}, (A.map Prod.fst).Nodup → fndM A q = some t → putM (upd f ks A) q (f t) = upd f (ks ++ [q]) A
  | [], _, h => by cases h
  | a :: r, hn, h => by
    rw [List.map_cons, List.nodup_cons] at hn
    show putM ((if a.1 ∈ ks then (a.1, f a.2) else a) :: upd f ks r) q (f t) = (if a.1 ∈ ks ++ [q] then (a.1, f a.2) else a) :: upd f (ks ++ [q]) r
    have e1 : (if a.1 ∈ ks then (a.1, f a.2) else a).1 = a.1 := by split <;> rfl
    unfold putM
    rw [e1]
    unfold fndM at h
    by_cases e : a.1 = q
    · rw [if_pos e] at h
      simp only [Option.some.injEq] at h
      rw [if_pos e, if_pos (by rw [e]; simp), ← h, upd_out (by rw [← e]; exact hn.1), e]
    · rw [if_neg e] at h
      have e2 : (a.1 ∈ ks ++ [q]) ↔ a.1 ∈ ks := by
        rw [List.mem_append, List.mem_singleton]
        exact ⟨fun h2 => h2.elim id fun h3 => absurd h3 e, .inl⟩
      rw [if_neg e, upd_put hq hn.2 h]
      by_cases h2 : a.1 ∈ ks
      · rw [if_pos h2, if_pos (e2.2 h2)]
      · rw [if_neg h2, if_neg (fun h3 => h2 (e2.1 h3))]
theorem upd_same {f : En → En} {ks : List Int} {q : Int} {t : En} (hf : f t = t) : ∀ {A : AM En}, (A.map Prod.fst).Nodup → fndM A q = some t → upd f (ks ++ [q]) A = upd f ks A
  | [], _, h => by cases h
  | a :: r, hn, h => by
    rw [List.map_cons, List.nodup_cons] at hn
    show (if a.1 ∈ ks ++ [q] then (a.1, f a.2) else a) :: upd f (ks ++ [q]) r = (if a.1 ∈ ks then (a.1, f a.2) else a) :: upd f ks r
    unfold fndM at h
    by_cases e : a.1 = q
    · rw [if_pos e] at h
      simp only [Option.some.injEq] at h
      rw [upd_out (by rw [← e]; exact hn.1)]
      have : (a.1, f a.2) = a := by rw [h, hf, ← h]
      rw [this]; split <;> split <;> rfl
    · rw [if_neg e] at h
      have e2 : (a.1 ∈ ks ++ [q]) ↔ a.1 ∈ ks := by
        rw [List.mem_append, List.mem_singleton]
        exact ⟨fun h2 => h2.elim id fun h3 => absurd h3 e, .inl⟩
      rw [upd_same hf hn.2 h]
      by_cases h2 : a.1 ∈ ks
      · rw [if_pos h2, if_pos (e2.2 h2)]
      · rw [if_neg h2, if_neg (fun h3 => h2 (e2.1 h3))]
theorem upd_all {f : En → En} {ks : List Int} {A : AM En} (h : ∀ a ∈ A, a.1 ∈ ks) : upd f ks A = mapE f A := List.map_congr_left fun a ha => if_pos (h a ha)
theorem upd_none (f : En → En) (A : AM En) : upd f [] A = A := by
  unfold upd
  conv => rhs; rw [← List.map_id A]
  exact List.map_congr_left fun a _ => if_neg (by simp)
theorem keys_perm {τ : Type} (A : AM τ) : (keysM A).Perm (A.map Prod.fst) := by
  have h : (A.map Prod.fst).mergeSort (fun x y => decide (x ≤ y)) = keysM A := sortS_int (List.Perm.refl _)
  rw [← h]; exact List.mergeSort_perm _ _
theorem keys_nd {τ : Type} {A : AM τ} (h : (A.map Prod.fst).Nodup) : (keysM A).Nodup := (keys_perm A).nodup_iff.2 h
theorem keys_len {τ : Type} (A : AM τ) : (keysM A).length = A.length := by rw [(keys_perm A).length_eq, List.length_map]
theorem srt_img (f : Int → En → Value) (A : AM En) : srtIQ (imgM f A) = valsOf .i64 (keysM A) := by
  unfold srtIQ keysM imgM
  rw [List.map_map]; rfl
theorem eI_vals (l : List Int) (i : Nat) : eI (valsOf .i64 l) i = l.getD i 0 := by
  unfold eI valsOf
  rw [List.getD_eq_getElem?_getD, List.getElem?_map, List.getD_eq_getElem?_getD]
  cases l[i]? <;> rfl
theorem vals_length (k : IntKind) (l : List Int) : (valsOf k l).length = l.length := List.length_map _
theorem vals_app (k : IntKind) (l m : List Int) : valsOf k (l ++ m) = valsOf k l ++ valsOf k m := List.map_append
theorem take_next {l : List Int} {i : Nat} (h : i < l.length) : l.take (i + 1) = l.take i ++ [l.getD i 0] := by
  rw [List.take_add_one, List.getD_eq_getElem?_getD, List.getElem?_eq_getElem h]; rfl
theorem not_before {l : List Int} (hn : l.Nodup) {i : Nat} (h : i < l.length) : l.getD i 0 ∉ l.take i := by
  intro hm
  rw [List.getD_eq_getElem?_getD, List.getElem?_eq_getElem h] at hm
  obtain ⟨j, hj, he⟩ := List.mem_take_iff_getElem.1 hm
  simp only [Option.getD_some] at he
  exact List.pairwise_iff_getElem.1 hn j i (by omega) h (by omega) he
/-- A walk over all entries by their sorted keys. -/
structure TW (f : En → En) (p : En → Bool) (A : AM En) (n : Nat) (d : TkA) (i : Nat) : Prop where
  dn : d.n = (n : Int)
  di : d.i = (i : Int)
  le : i ≤ n
  dl : d.l = valsOf .i64 (((keysM A).take i).filter (pick A p))
  es : d.es = imgM enV (upd f ((keysM A).take i) A)
theorem tw_at {f : En → En} {p : En → Bool} {A : AM En} {d : TkA} {i : Nat} (hn : (A.map Prod.fst).Nodup) (h : TW f p A (keysM A).length d i) (hlt : i < (keysM A).length) :
    ∃ q t, (keysM A).getD i 0 = q ∧ fndM A q = some t ∧ std.mget (.int .i64 0) zEn d.es (.int .i64 q) = enV q t ∧ q ∉ (keysM A).take i := by
  have hm : (keysM A).getD i 0 ∈ A.map Prod.fst := by
    rw [← (keys_perm A).mem_iff, List.getD_eq_getElem?_getD, List.getElem?_eq_getElem hlt]
    exact List.getElem_mem hlt
  obtain ⟨t, ht⟩ := fnd_of hm
  have hq := not_before (keys_nd hn) hlt
  refine ⟨_, t, rfl, ht, ?_, hq⟩
  rw [h.es]
  show mget zI zEn (imgM enV _) (kJ _) = _
  rw [mget_img, fnd_upd hq, ht]
theorem tw_yes {f : En → En} {p : En → Bool} {A : AM En} {d : TkA} {i : Nat} (hn : (A.map Prod.fst).Nodup) (h : TW f p A (keysM A).length d i) (hlt : i < (keysM A).length) {q : Int} {t : En} (hq : (keysM A).getD i 0 = q) (ht : fndM A q = some t) (hp : p t = true) :
    TW f p A (keysM A).length { l := d.l ++ [.int .i64 q], n := d.n, i := d.i + 1, es := mput zI d.es (kJ q) (enV q (f t)) } (i + 1) := by
  have hb := not_before (keys_nd hn) hlt
  refine ⟨h.dn, by show d.i + 1 = ((i + 1 : Nat) : Int); rw [h.di]; omega, hlt, ?_, ?_⟩
  · show d.l ++ [.int .i64 q] = _
    rw [h.dl, take_next hlt, List.filter_append, vals_app, hq]
    have : pick A p q = true := by unfold pick; rw [ht]; exact hp
    rw [List.filter_cons, if_pos this]; rfl
  · show mput zI d.es (kJ q) (enV q (f t)) = _
    rw [h.es, mput_img, take_next hlt, hq, upd_put (by rw [← hq]; exact hb) hn ht]
theorem tw_no {f : En → En} {p : En → Bool} {A : AM En} {d : TkA} {i : Nat} (hn : (A.map Prod.fst).Nodup) (h : TW f p A (keysM A).length d i) (hlt : i < (keysM A).length) {q : Int} {t : En} (hq : (keysM A).getD i 0 = q) (ht : fndM A q = some t) (hp : p t = false) (hf : f t = t) :
    TW f p A (keysM A).length { l := d.l, n := d.n, i := d.i + 1, es := d.es } (i + 1) := by
  refine ⟨h.dn, by show d.i + 1 = ((i + 1 : Nat) : Int); rw [h.di]; omega, hlt, ?_, ?_⟩
  · show d.l = _
    rw [h.dl, take_next hlt, List.filter_append, hq]
    have : pick A p q = false := by unfold pick; rw [ht]; exact hp
    rw [List.filter_cons, if_neg (by rw [this]; decide)]; simp
  · show d.es = _
    rw [h.es, take_next hlt, hq, upd_same hf hn ht]
theorem tw_zero (f : En → En) (p : En → Bool) (A : AM En) : TW f p A (keysM A).length { l := [], n := ((keysM A).length : Int), i := 0, es := imgM enV A } 0 :=
  ⟨rfl, rfl, Nat.zero_le _, by rw [List.take_zero]; rfl, by rw [List.take_zero, upd_none]⟩
theorem tw_end {f : En → En} {p : En → Bool} {A : AM En} {d : TkA} {i : Nat} (h : TW f p A (keysM A).length d i) (he : ¬ d.i < d.n) : d.l = valsOf .i64 ((keysM A).filter (pick A p)) ∧ d.es = imgM enV (mapE f A) := by
  have : i = (keysM A).length := by have := h.le; have := h.di; have := h.dn; omega
  subst this
  refine ⟨by rw [h.dl, List.take_length], ?_⟩
  rw [h.es, List.take_length, upd_all fun a ha => (keys_perm A).mem_iff.2 (List.mem_map_of_mem ha)]
def tkI (f : En → En) (p : En → Bool) (A : AM En) (d : TkA) : Prop := ∃ i, TW f p A (keysM A).length d i
theorem mapE_mem {f : En → En} {A : AM En} {a : Int × En} (h : a ∈ mapE f A) : ∃ t, (a.1, t) ∈ A ∧ a.2 = f t := by
  obtain ⟨x, hx, rfl⟩ := List.mem_map.1 h
  exact ⟨x.2, hx, rfl⟩
theorem t1_pd (b : Int) (t : En) : (t1 b t).p = t.p ∧ (t1 b t).d = t.d ∧ (t1 b t).k = t.k ∧ (t1 b t).key = t.key ∧ (t1 b t).e = t.e := by
  unfold t1; split <;> exact ⟨rfl, rfl, rfl, rfl, rfl⟩
theorem t2_pd (b : Int) (t : En) : (t2 b t).p = t.p ∧ (t2 b t).d = t.d ∧ (t2 b t).k = t.k ∧ (t2 b t).key = t.key ∧ (t2 b t).e = t.e := by
  unfold t2; split <;> exact ⟨rfl, rfl, rfl, rfl, rfl⟩
end Go.Proofs.Ytledddhagpgfaaa
end
section
namespace Go.Proofs.Ytledddhagpgfaaa
open Go.RowKit Go.Abs Go
set_option maxRecDepth 100000
def okA (A : AM En) : Prop := (A.map Prod.fst).Nodup ∧ A.length ≤ 1000 ∧ ∀ a ∈ A, (-9223372036854775808 ≤ a.1 ∧ a.1 ≤ 9223372036854775807) ∧ (0 ≤ a.2.p ∧ a.2.p ≤ 1000) ∧ (0 ≤ a.2.d ∧ a.2.d ≤ 1000)
theorem okA_map {f : En → En} (hf : ∀ t, (f t).p = t.p ∧ (f t).d = t.d) {A : AM En} (h : okA A) : okA (mapE f A) := by
  refine ⟨by rw [mapE_keys]; exact h.1, by unfold mapE; rw [List.length_map]; exact h.2.1, fun a ha => ?_⟩
  obtain ⟨t, h1, h2⟩ := mapE_mem ha
  obtain ⟨h3, h4, h5⟩ := h.2.2 _ h1
  rw [h2, (hf t).1, (hf t).2]
  exact ⟨h3, h4, h5⟩
theorem fnd_in {A : AM En} {q : Int} {t : En} (h : okA A) (ht : fndM A q = some t) : (0 ≤ t.p ∧ t.p ≤ 1000) ∧ (0 ≤ t.d ∧ t.d ≤ 1000) := (h.2.2 _ (mfnd_mem ht)).2
theorem keys_mapE (f : En → En) (A : AM En) : keysM (mapE f A) = keysM A := by
  unfold keysM; rw [mapE_keys]
theorem tick2 (a b l : Int) (A0 A : AM En) (d14 : TkA) (ha : okA A) (hb : -1000000 ≤ b ∧ b ≤ 1000000) (hA : A = mapE (t1 (b + 1)) A0)
    (h1 : d14.l = valsOf .i64 (lateF (b + 1) A0)) (h2 : d14.es = imgM enV A) :
    tick_vc_L1 qrF a b l (imgM enV A0) (valsOf .i64 (keysM A)) (valsOf .i64 (lateF (b + 1) A0)) (tkI (t2 (b + 1)) (a2 (b + 1)) A) (fun d => (d.n - d.i).toNat) d14 := by
  unfold tick_vc_L1
  rw [h1, h2]
  have hkl : (keysM A).length ≤ 1000 := by rw [keys_len]; exact ha.2.1
  refine ⟨{ l := [], n := ((keysM A).length : Int), i := 0, es := imgM enV A }, by rw [show (valsOf .i64 (keysM A)).length = (keysM A).length from vals_length _ _] <;> rfl, ⟨0, tw_zero _ _ _⟩, fun d => fun ⟨i, hw⟩ => ⟨fun h3 => ?_, fun h3 => ?_⟩⟩
  · have h3 := of_decide_eq_true h3
    have hlt : i < (keysM A).length := by have := hw.di; have := hw.dn; omega
    obtain ⟨q, t, hq, ht, hm, hnb⟩ := tw_at ha.1 hw hlt
    obtain ⟨hp, hd⟩ := fnd_in ha ht
    have e1 : eI (valsOf .i64 (keysM A)) (Int.toNat d.i) = q := by rw [hw.di, Int.toNat_natCast, eI_vals, hq]
    rw [e1, hm, vals_length]
    have hdi := hw.di
    have hdn := hw.dn
    have meas : (d.n - (d.i + 1)).toNat + 1 ≤ (d.n - d.i).toNat := by omega
    have rng : -9223372036854775808 ≤ d.i + 1 ∧ d.i + 1 ≤ 9223372036854775807 := by omega
    have skip : a2 (b + 1) t = false → ∃ j, TW (t2 (b + 1)) (a2 (b + 1)) A (keysM A).length { l := d.l, n := d.n, i := d.i + 1, es := d.es } j := fun h => ⟨_, tw_no ha.1 hw hlt hq ht h (by unfold t2; rw [h]; rfl)⟩
    have hdl : d.l.length ≤ 1000 := by
      rw [hw.dl, vals_length]
      have := List.length_filter_le (pick A (a2 (b + 1))) ((keysM A).take i)
      rw [List.length_take] at this
      omega
    have f3 : std.dint (std.fld (enV q t) 3) = t.p := rfl
    have f4 : std.dint (std.fld (enV q t) 4) = t.d := rfl
    have f5 : std.dint (std.fld (enV q t) 5) = t.due := rfl
    have f6 : std.dint (std.fld (enV q t) 6) = t.un := rfl
    rw [f3, f4, f5, f6]
    refine ⟨by omega, ⟨fun h4 => ⟨rng, ⟨{ l := d.l, n := d.n, i := d.i + 1, es := d.es }, rfl, meas, skip ?_⟩⟩, fun h4 => ⟨fun h5 => ⟨rng, ⟨{ l := d.l, n := d.n, i := d.i + 1, es := d.es }, rfl, meas, skip ?_⟩⟩, fun h5 => ⟨fun h6 => ⟨rng, ⟨{ l := d.l, n := d.n, i := d.i + 1, es := d.es }, rfl, meas, skip ?_⟩⟩, fun h6 => ⟨by omega, ⟨fun h7 => ⟨by omega, ⟨by rw [List.length_append]; show (d.l.length + 1) * 8 ≤ _; omega, ⟨rng, ⟨{ l := d.l ++ [.int .i64 q], n := d.n, i := d.i + 1, es := _ }, rfl, meas, ?_⟩⟩⟩⟩, fun h7 => ⟨by rw [List.length_append]; show (d.l.length + 1) * 8 ≤ _; omega, ⟨rng, ⟨{ l := d.l ++ [.int .i64 q], n := d.n, i := d.i + 1, es := _ }, rfl, meas, ?_⟩⟩⟩⟩⟩⟩⟩⟩⟩
    · unfold a2; rw [h4]; rfl
    · unfold a2; rw [h5]; simp
    · unfold a2; rw [h6]; simp
    · have hy : a2 (b + 1) t = true := by unfold a2; rw [h4, h5, h6]; rfl
      have h7 := of_decide_eq_true h7
      have h := tw_yes ha.1 hw hlt hq ht hy
      have e : enV q (t2 (b + 1) t) = .agg #[.int .i64 t.k, .string t.key, .string t.e, .int .i64 t.p, .int .i64 t.d, .int .i64 (b + 1 + t.p), .int .i64 (b + 1 + t.d)] := by
        unfold t2; rw [if_pos hy, if_pos h7]; rfl
      rw [e] at h
      exact ⟨_, h⟩
    · have hy : a2 (b + 1) t = true := by unfold a2; rw [h4, h5, h6]; rfl
      have h7 := of_decide_eq_false h7
      have h := tw_yes ha.1 hw hlt hq ht hy
      have e : enV q (t2 (b + 1) t) = .agg #[.int .i64 t.k, .string t.key, .string t.e, .int .i64 t.p, .int .i64 t.d, .int .i64 0, .int .i64 (b + 1 + t.d)] := by
        unfold t2; rw [if_pos hy, if_neg h7]; rfl
      rw [e] at h
      exact ⟨_, h⟩
  · have h3 := of_decide_eq_false h3
    obtain ⟨e1, e2⟩ := tw_end hw h3
    rw [e1, e2, hA, keys_mapE]
    have g1 : qrF.tl b (imgM enV A0) = valsOf .i64 (lateF (b + 1) A0) := by
      show valsOf .i64 (lateF (b + 1) (dec (imgM enV A0))) = _
      rw [dec_img]
    have g2 : qrF.tk b (imgM enV A0) = valsOf .i64 (askedF (b + 1) A0) := by
      show valsOf .i64 (askedF (b + 1) (dec (imgM enV A0))) = _
      rw [dec_img]
    have g3 : qrF.tm b (imgM enV A0) = imgM enV (nextF (b + 1) A0) := by
      show imgM enV (nextF (b + 1) (dec (imgM enV A0))) = _
      rw [dec_img]
    rw [g1, g2, g3]
    rfl
theorem late_len (b : Int) (A : AM En) : (lateF b A).length ≤ A.length := by
  have := List.length_filter_le (pick A (l1 b)) (keysM A)
  rw [keys_len] at this
  exact this
theorem tick_run (a b l : Int) (A : AM En) (ha : okA A) (hb : -1000000 ≤ b ∧ b ≤ 1000000) (hl : -1000000 ≤ l ∧ l ≤ 1000000) :
    runW std (tkCon qrF) 60 (tkLs std (valsOf .i64 (keysM A)) (valsOf .i64 (lateF (b + 1) A)) a b l (tkI (t1 (b + 1)) (l1 (b + 1)) A) (fun d => (d.n - d.i).toNat) (tkI (t2 (b + 1)) (a2 (b + 1)) (mapE (t1 (b + 1)) A)) (fun d => (d.n - d.i).toNat)) (tickO std qrF) 11 Try.f11 (a, b, l, imgM enV A, ()) := by
  refine (tick_vc qrF a b l (imgM enV A) _ _ _ _ _ _).mpr ?_
  have hsr : qrF.srt (imgM enV A) = valsOf .i64 (keysM A) := srt_img enV A
  have hok : qrF.ok (imgM enV A) := by
    refine ⟨by rw [mlen_img]; exact ha.2.1, fun e he => ?_⟩
    obtain ⟨x, hx, rfl⟩ := List.mem_map.1 he
    exact (ha.2.2 x hx).1
  unfold tick_vc_L2
  rw [hsr]
  have hkl : (keysM A).length ≤ 1000 := by rw [keys_len]; exact ha.2.1
  refine ⟨by omega, ⟨hok, ⟨{ l := [], n := ((keysM A).length : Int), i := 0, es := imgM enV A }, by rw [show (valsOf .i64 (keysM A)).length = (keysM A).length from vals_length _ _] <;> rfl, ⟨0, tw_zero _ _ _⟩, fun d => fun ⟨i, hw⟩ => ⟨fun h3 => ?_, fun h3 => ?_⟩⟩⟩⟩
  · have h3 := of_decide_eq_true h3
    have hlt : i < (keysM A).length := by have := hw.di; have := hw.dn; omega
    obtain ⟨q, t, hq, ht, hm, hnb⟩ := tw_at ha.1 hw hlt
    have e1 : eI (valsOf .i64 (keysM A)) (Int.toNat d.i) = q := by rw [hw.di, Int.toNat_natCast, eI_vals, hq]
    rw [e1, hm, vals_length]
    have hdi := hw.di
    have hdn := hw.dn
    have meas : (d.n - (d.i + 1)).toNat + 1 ≤ (d.n - d.i).toNat := by omega
    have rng : -9223372036854775808 ≤ d.i + 1 ∧ d.i + 1 ≤ 9223372036854775807 := by omega
    have skip : l1 (b + 1) t = false → ∃ j, TW (t1 (b + 1)) (l1 (b + 1)) A (keysM A).length { l := d.l, n := d.n, i := d.i + 1, es := d.es } j := fun h => ⟨_, tw_no ha.1 hw hlt hq ht h (by unfold t1; rw [h]; rfl)⟩
    have hdl : d.l.length ≤ 1000 := by
      rw [hw.dl, vals_length]
      have := List.length_filter_le (pick A (l1 (b + 1))) ((keysM A).take i)
      rw [List.length_take] at this
      omega
    have f6 : std.dint (std.fld (enV q t) 6) = t.un := rfl
    rw [f6]
    refine ⟨by omega, ⟨fun h4 => ⟨fun h5 => ⟨by rw [List.length_append]; show (d.l.length + 1) * 8 ≤ _; omega, ⟨rng, ⟨{ l := d.l ++ [.int .i64 q], n := d.n, i := d.i + 1, es := _ }, rfl, meas, ?_⟩⟩⟩, fun h5 => ⟨rng, ⟨{ l := d.l, n := d.n, i := d.i + 1, es := d.es }, rfl, meas, skip ?_⟩⟩⟩, fun h4 => ⟨rng, ⟨{ l := d.l, n := d.n, i := d.i + 1, es := d.es }, rfl, meas, skip ?_⟩⟩⟩⟩
    · have hy : l1 (b + 1) t = true := by unfold l1; rw [h4, h5]; rfl
      have h := tw_yes ha.1 hw hlt hq ht hy
      have e : enV q (t1 (b + 1) t) = .agg #[.int .i64 t.k, .string t.key, .string t.e, .int .i64 t.p, .int .i64 t.d, .int .i64 t.due, .int .i64 0] := by
        unfold t1; rw [if_pos hy]; rfl
      rw [e] at h
      exact ⟨_, h⟩
    · unfold l1; rw [h5]; simp
    · unfold l1; rw [h4]; rfl
  · have h3 := of_decide_eq_false h3
    obtain ⟨e1, e2⟩ := tw_end hw h3
    have hll := late_len (b + 1) A
    have hal := ha.2.1
    have hk : valsOf .i64 (keysM A) = valsOf .i64 (keysM (mapE (t1 (b + 1)) A)) := by rw [keys_mapE]
    refine ⟨by rw [e1, vals_length]; show _ ≤ l + ((lateF (b + 1) A).length : Int) ∧ l + ((lateF (b + 1) A).length : Int) ≤ _; omega, ?_⟩
    rw [hk]
    exact tick2 a b l A _ d (okA_map (fun t => ⟨(t1_pd _ t).1, (t1_pd _ t).2.1⟩) ha) hb rfl e1 e2
theorem tkCon_ok : ConOk Try.prog (tkCon qrF) := conL_ok fun x hx => by rw [List.mem_singleton.1 hx]; exact sortCQ_ok
theorem tick_ok : OFOk Try.prog 11 (tickO std qrF) :=
  of_ok (LS := fun d => tkLs std (valsOf .i64 (keysM (dec d.2.2.2.1))) (valsOf .i64 (lateF (std.add d.2.1 1) (dec d.2.2.2.1))) d.1 d.2.1 d.2.2.1 (tkI (t1 (std.add d.2.1 1)) (l1 (std.add d.2.1 1)) (dec d.2.2.2.1)) (fun d => (d.n - d.i).toNat) (tkI (t2 (std.add d.2.1 1)) (a2 (std.add d.2.1 1)) (mapE (t1 (std.add d.2.1 1)) (dec d.2.2.2.1))) (fun d => (d.n - d.i).toNat)) Try.progOk tkCon_ok (inCallF_ok 60) (tickO std qrF) Try.func11 (show _ = some (bodyS Try.prog 11) by kernel_rfl) (by decide) rfl fun d hd => by
    obtain ⟨a, b, l, es, u⟩ := d
    obtain ⟨hb, hl, A, he, hA⟩ := hd
    dsimp only at he
    subst he
    dsimp only
    rw [dec_img]
    exact tick_run a b l A hA hb hl
end Go.Proofs.Ytledddhagpgfaaa
end
section
namespace Go.Proofs.Ytledddhagpgfaaa
open Go.RowKit Go.Abs Go
noncomputable section
variable (S : Sy) (g : KvF) (u : QrF)
structure QmA where
  nx : Int
  i : Int
  a : Int
  b : Int
  l : Int
  es : Ents
  lv : Ents
structure QmB where
  nx : Int
  i : Int
  ak : List Value
  ls : List Value
  n : Int
  j : Int
  a : Int
  b : Int
  l : Int
  es : Ents
  lv : Ents
structure QmC where
  nx : Int
  i : Int
  ak : List Value
  n : Int
  j : Int
  a : Int
  b : Int
  l : Int
  es : Ents
  lv : Ents
structure QmD where
  n : Int
  j : Int
  a : Int
  b : Int
  l : Int
  es : Ents
  lv : Ents
def zT : Value := .bool false
def kB : BS := ⟨#[107]⟩
def nB : BS := ⟨#[]⟩
def qmBl : List (Option SB) := [some regB, some (.smap zI zEn), some (.smap zI zT)]
def qmSh : Shape := ⟨slotsOf 170 [(0, .one (.zero (.deep zI))), (1, .one (.zero (.deep zI))), (5, .one (.zero (.ptr 0 0))), (6, .one (.zero .hole)), (7, .one (.zero (.map 2))), (8, .one (.zero .hole))], qmBl⟩
def qmSh2 : Shape := ⟨slotsOf 170 [(0, .one (.zero (.deep zI))), (1, .one (.zero (.deep zI))), (5, .one (.zero (.ptr 0 0))), (6, .one (.zero .hole)), (7, .one (.zero (.map 2))), (8, .one (.zero .hole)), (13, .one (.zero (.deep zI))), (119, .one (.zero (.deep zI))), (120, .one (.zero .hole)), (121, .one (.zero .hole))], qmBl⟩
def qmSh4 : Shape := ⟨slotsOf 170 [(0, .one (.zero (.deep zI))), (1, .one (.zero (.deep zI))), (5, .one (.zero (.ptr 0 0))), (6, .one (.zero .hole)), (7, .one (.zero (.map 2))), (8, .one (.zero .hole)), (130, .one (.zero (.deep zI))), (131, .one (.zero .hole)), (132, .one (.zero .hole))], qmBl⟩
def qmSh6 : Shape := ⟨slotsOf 170 [(5, .one (.zero (.ptr 0 0))), (7, .one (.zero (.map 2))), (153, .one (.zero .hole)), (154, .one (.zero .hole))], qmBl⟩
def qmLs (ps dr : List Value) (I : QmA → Prop) (m : QmA → Nat) (J : QmB → Prop) (q : QmB → Nat) (G : QmC → Prop) (w : QmC → Nat) (H : QmD → Prop) (x : QmD → Nat) : Loops := fun id =>
  if id = 0 then some [{ D := QmA, sh := qmSh, rho := qmSh.find 0, fills := fun d => [.dl ps, .dl dr, .val (.int .i64 d.nx), .val (.int .i64 d.i), .val (.int .i64 d.a), .val (.int .i64 d.b), .val (.int .i64 d.l), .me d.es, .me d.lv], I := I, m := m }] else
  if id = 2 then some [{ D := QmB, sh := qmSh2, rho := qmSh2.find 0, fills := fun d => [.dl ps, .dl dr, .val (.int .i64 d.nx), .val (.int .i64 d.i), .dl d.ak, .dl d.ls, .val (.int .i64 d.n), .val (.int .i64 d.j), .val (.int .i64 d.a), .val (.int .i64 d.b), .val (.int .i64 d.l), .me d.es, .me d.lv], I := J, m := q, gh := some fun d => [.int .i64 d.i] }] else
  if id = 4 then some [{ D := QmC, sh := qmSh4, rho := qmSh4.find 0, fills := fun d => [.dl ps, .dl dr, .val (.int .i64 d.nx), .val (.int .i64 d.i), .dl d.ak, .val (.int .i64 d.n), .val (.int .i64 d.j), .val (.int .i64 d.a), .val (.int .i64 d.b), .val (.int .i64 d.l), .me d.es, .me d.lv], I := G, m := w, gh := some fun d => [.int .i64 d.i] }] else
  if id = 6 then some [{ D := QmD, sh := qmSh6, rho := qmSh6.find 0, fills := fun d => [.val (.int .i64 d.n), .val (.int .i64 d.j), .val (.int .i64 d.a), .val (.int .i64 d.b), .val (.int .i64 d.l), .me d.es, .me d.lv], I := H, m := x }] else none
def asB (v : Value) : Option Bool := match v with
  | .bool b => some b
  | _ => none
/-- What is known of comparisons behind the first one. -/
def qmTell (o : Oper) (r : Operand → Value) : Option Bool :=
  match o.dst with
  | some 50 => asB (r (.tmp 47))
  | some 54 => asB (r (.tmp 47))
  | some 74 => asB (r (.tmp 47))
  | some 63 => (asB (r (.tmp 47))).map not
  | some 58 => some false
  | some 66 => some false
  | some 69 => some false
  | _ => none
def qmCon : Con := Con.tellO (Con.draw (conL [(17, pcon (withinP S g)), (10, ocon (addO S u)), (11, ocon (tickO S u)), (3, closedC (.bool true))]) [(20, ocd (dropO u))]) qmTell
def qmP : PF := pf (.cons cIs (.cons cIs .nil)) (fun _ => True) [.bool false] fun _ => [.bool true]
end
end Go.Proofs.Ytledddhagpgfaaa
end
