/-
  KV: kinds of data, functions of immutable data: contracts' forms.
-/
import Derived.Test.YtmhfnbbamoadgaaFw5
import Derived.Shelf.Spec.SlicesGrow
import Derived.Ground.Names8Prog
section
namespace Go.Proofs.Ytmhfnbbamoadgaa
open Go.RowKit Go.Abs Go
noncomputable section
def bodyS (P : Program) (f : Nat) : Code := ((P.funcs[f]?).bind (·.body)).getD .skip
/-- A function's text against what is said of it. -/
def runP (S : Sy) (C : Con) (n : Nat) (LS : Loops) (F : PF) (f : Nat) (fn : Func) (d : F.D) : Prop := lawV S Try.prog C (inCallF 60) n LS fn (bodyS Try.prog f) (F.args d) (hpOf []) (F.done d)
def noL : Loops := fun _ => none
def zS : Value := .string ⟨#[]⟩
def zP : Value := .agg #[.string ⟨#[]⟩, .string ⟨#[]⟩]
def zI : Value := .int .i64 0
def cP : Cod (List Value) := cL zP rfl
def cPr : Cod (ByteArray × ByteArray × Unit) := cA (.cons cS rfl (.cons cS rfl .nil))
def fnV (f : FuncId) : Value := .func (.func f) #[] #[]
theorem raw_fn (f : FuncId) (deep : Value → Value → Option (List Value)) (u : Value) : rawV deep (fnV f) u = if vbeq1 (fnV f) u then some (fnV f) else none := rfl
def cF (f : FuncId) (h : vbeq1 (fnV f) (fnV f) = true) : Cod Unit := cK (fnV f) (by rw [raw_fn, if_pos h]) (fun deep u x h => by rw [raw_fn] at h; split at h <;> simp_all) rfl
/-- Strings held against one another: the runtime's own function. -/
def cmpC (cmp : ByteArray → ByteArray → Int) (args : List Value) (h : Hp) (K : Value → Hp → Prop) : Prop :=
  match args with
  | [a, b] => match den a, den b with
    | .string x, .string y => K (mk (.int .i64 (cmp x y))) h
    | _, _ => False
  | _ => False
def LIM : Nat := 1000000
theorem raw_nil (deep : Value → Value → Option (List Value)) (u : Value) : rawV deep (.slice none 0 0) u = if vbeq1 (.slice none 0 0) u then some (.slice none 0 0) else none := rfl
/-- nil. -/
def cN : Cod Unit := cK (.slice none 0 0) (by rw [raw_nil, if_pos (show vbeq1 (.slice none 0 0) (.slice none 0 0) = true from rfl)]) (fun deep u x h => by rw [raw_nil] at h; split at h <;> simp_all) rfl
def cI64 : Cod Int := cI .i64
/-- slices.Grow of nil. -/
def growP (S : Sy) (z : Value) : PF := pf (.cons cN (.cons cI64 .nil)) (fun d => S.ile 0 d.2.1 ∧ S.ile d.2.1 4000000) [dsl z []] (fun _ => [dsl z []]) true
def cIs : Cod (List Value) := cL zI rfl
def cSs : Cod (List Value) := cL zS rfl
def cYs : Cod (List Value) := cL (.int .u8 0) rfl
def cPss : Cod (List Value) := cL (dsl zP []) rfl
/-- Elements. -/
def zPs : Value := dsl zP []
def kP (xs : List Value) (i : Nat) : ByteArray := dstr (fld (xs.getD i zP) 0)
def vP (xs : List Value) (i : Nat) : ByteArray := dstr (fld (xs.getD i zP) 1)
def eI (xs : List Value) (i : Nat) : Int := dint (xs.getD i zI)
def eB (xs : List Value) (i : Nat) : Int := dint (xs.getD i (.int .u8 0))
def eS (xs : List Value) (i : Nat) : ByteArray := dstr (xs.getD i zS)
def eL (xs : List Value) (i : Nat) : List Value := dels (xs.getD i zPs)
/-- What the functions come to: letters. -/
structure KvF where
  cmp : ByteArray → ByteArray → Int
  bs : List Value → ByteArray → Int
  fd : List Value → ByteArray → Bool
  may : ByteArray → ByteArray → Bool
  rmay : ByteArray → ByteArray → Bool
  right : List Value → Bool
  rright : List Value → Bool
  same : List Value → List Value → Bool
  sameb : List Value → List Value → Bool
  get : List Value → ByteArray → ByteArray
  set : List Value → ByteArray → ByteArray → List Value
  setok : List Value → ByteArray → ByteArray → Bool
  del : List Value → ByteArray → List Value
  rng : List Value → ByteArray → ByteArray → List Value
  rset : List Value → ByteArray → ByteArray → List Value
  rdel : List Value → ByteArray → List Value
  rfirst : List Value → ByteArray → Int
  leaf : ByteArray → ByteArray → List Value
  key : Int → ByteArray
  txt : Int → ByteArray
  pairs : List Value → List Value
  cat : List Value → List Value
  one : Int → List Value
  text : List Value → List Value
  wi : Int → Int → Int → Int
variable (S : Sy) (g : KvF)
def bsP : PF := pf (.cons cP (.cons cS (.cons (cF 68 rfl) .nil))) (fun d => S.nle (S.len d.1) LIM) [zI, .bool false] fun d => [mk (.int .i64 (g.bs d.1 d.2.1)), mkb (g.fd d.1 d.2.1)]
def mayP : PF := pf (.cons cPr .nil) (fun _ => True) [.bool false] fun d => [mkb (g.may d.1.1 d.1.2.1)]
def rmayP : PF := pf (.cons cPr .nil) (fun _ => True) [.bool false] fun d => [mkb (g.rmay d.1.1 d.1.2.1)]
def rightP : PF := pf (.cons cP .nil) (fun d => S.nle (S.len d.1) LIM) [.bool false] fun d => [mkb (g.right d.1)]
def rrightP : PF := pf (.cons cP .nil) (fun d => S.nle (S.len d.1) LIM) [.bool false] fun d => [mkb (g.rright d.1)]
def sameP : PF := pf (.cons cP (.cons cP .nil)) (fun d => S.nle (S.len d.1) LIM) [.bool false] fun d => [mkb (g.same d.1 d.2.1)]
def samebP : PF := pf (.cons cYs (.cons cYs .nil)) (fun d => S.nle (S.len d.1) LIM) [.bool false] fun d => [mkb (g.sameb d.1 d.2.1)]
def getP : PF := pf (.cons cP (.cons cS .nil)) (fun d => S.nle (S.len d.1) LIM) [zS, .bool false] fun d => [mk (.string (g.get d.1 d.2.1)), mkb (g.fd d.1 d.2.1)]
def firstP : PF := pf (.cons cP (.cons cS .nil)) (fun d => S.nle (S.len d.1) LIM) [zI] fun d => [mk (.int .i64 (g.bs d.1 d.2.1))]
def setP : PF := pf (.cons cP (.cons cPr .nil)) (fun d => S.nle (S.len d.1) LIM) [dsl zP [], .bool false] fun d => [dsl zP (g.set d.1 d.2.1.1 d.2.1.2.1), mkb (g.setok d.1 d.2.1.1 d.2.1.2.1)]
def delP : PF := pf (.cons cP (.cons cS .nil)) (fun d => S.nle (S.len d.1) LIM) [dsl zP []] fun d => [dsl zP (g.del d.1 d.2.1)]
def rngP : PF := pf (.cons cP (.cons cS (.cons cS .nil))) (fun d => S.nle (S.len d.1) LIM) [dsl zP []] fun d => [dsl zP (g.rng d.1 d.2.1 d.2.2.1)]
def rsetP : PF := pf (.cons cP (.cons cPr .nil)) (fun d => S.nle (S.len d.1) LIM) [dsl zP []] fun d => [dsl zP (g.rset d.1 d.2.1.1 d.2.1.2.1)]
def rdelP : PF := pf (.cons cP (.cons cS .nil)) (fun d => S.nle (S.len d.1) LIM) [dsl zP []] fun d => [dsl zP (g.rdel d.1 d.2.1)]
def rfirstP : PF := pf (.cons cP (.cons cS .nil)) (fun d => S.nle (S.len d.1) LIM) [zI] fun d => [mk (.int .i64 (g.rfirst d.1 d.2.1))]
def keyP : PF := pf (.cons cI64 .nil) (fun d => inI S d.1) [zS] fun d => [mk (.string (g.key d.1))]
def txtP : PF := pf (.cons cI64 .nil) (fun d => inI S d.1) [zS] fun d => [mk (.string (g.txt d.1))]
structure IL where
  i : Int
structure NIL where
  n : Int
  i : Int
structure BsL where
  n : Int
  i : Int
  j : Int
def loop1 (L : LSpec) (b : Nat) : Loops := fun id => if id = b then some [L] else none
def bsLs (xs : List Value) (k : ByteArray) (I : BsL → Prop) (m : BsL → Nat) : Loops := loop1 { D := BsL, sh := ⟨slotsOf 49 [(0, .one (.zero (.deep zP))), (1, .one (.zero .hole)), (2, .one (.zero (.lit (fnV 68)))), (8, .one (.zero .hole)), (9, .one (.zero .hole)), (10, .one (.zero .hole))], []⟩, rho := fun _ => [], fills := fun d => [.dl xs, .val (.string k), .val (.int .i64 d.n), .val (.int .i64 d.i), .val (.int .i64 d.j)], I := I, m := m } 0
/-- A walk over all of a slice: slots a, b hold it, n its length, i the number. -/
def walkLs (nt a b n i : Nat) (xs : List Value) (I : NIL → Prop) (m : NIL → Nat) : Loops := loop1 { D := NIL, sh := ⟨slotsOf nt [(a, .one (.zero (.deep zP))), (b, .one (.zero (.deep zP))), (n, .one (.zero .hole)), (i, .one (.zero .hole))], []⟩, rho := fun _ => [], fills := fun d => [.dl xs, .dl xs, .val (.int .i64 d.n), .val (.int .i64 d.i)], I := I, m := m } 0
def sameLs (z : Value) (xs ys : List Value) (I : IL → Prop) (m : IL → Nat) : Loops := loop1 { D := IL, sh := ⟨slotsOf 26 [(0, .one (.zero (.deep z))), (1, .one (.zero (.deep z))), (5, .one (.zero .hole))], []⟩, rho := fun _ => [], fills := fun d => [.dl xs, .dl ys, .val (.int .i64 d.i)], I := I, m := m } 0
def rfirstLs (xs : List Value) (k : ByteArray) (I : IL → Prop) (m : IL → Nat) : Loops := loop1 { D := IL, sh := ⟨slotsOf 22 [(0, .one (.zero (.deep zP))), (1, .one (.zero .hole)), (5, .one (.zero .hole))], []⟩, rho := fun _ => [], fills := fun d => [.dl xs, .val (.string k), .val (.int .i64 d.i)], I := I, m := m } 0
structure DelL where
  n : Int
  i : Int
  r : List Value
def rdelSh : Shape := ⟨slotsOf 24 [(1, .one (.zero .hole)), (5, .one (.zero (.osl 0 zP))), (8, .one (.zero (.deep zP))), (9, .one (.zero .hole)), (10, .one (.zero .hole))], [some .tok]⟩
def rdelLs (xs : List Value) (k : ByteArray) (I : DelL → Prop) (m : DelL → Nat) : Loops := loop1 { D := DelL, sh := rdelSh, rho := rdelSh.find 0, fills := fun d => [.val (.string k), .dl d.r, .dl xs, .val (.int .i64 d.n), .val (.int .i64 d.i)], I := I, m := m } 0
def catP : PF := pf (.cons cPss .nil) (fun d => S.nle (S.len d.1) 3 ∧ ∀ i, S.nlt i (S.len d.1) → S.nle (S.len (S.dels (S.get (dsl zP []) d.1 i))) LIM) [dsl zP []] fun d => [dsl zP (g.cat d.1)]
def cloneP : PF := pf (.cons cP .nil) (fun d => S.nle (S.len d.1) LIM) [dsl zP []] (fun d => [dsl zP d.1]) true
def oneP : PF := pf (.cons cI64 .nil) (fun d => S.ile 0 d.1 ∧ S.ile d.1 1099511627775) [dsl (.int .u8 0) []] fun d => [dsl (.int .u8 0) (g.one d.1)]
def textP : PF := pf (.cons cSs .nil) (fun d => S.nle (S.len d.1) 2 ∧ ∀ i, S.nlt i (S.len d.1) → S.nle (S.slen (S.dstr (S.get zS d.1 i))) LIM) [dsl (.int .u8 0) []] fun d => [dsl (.int .u8 0) (g.text d.1)]
def leafP : PF := pf (.cons cPr .nil) (fun d => S.nle (S.slen d.1.1) LIM ∧ S.nle (S.slen d.1.2.1) LIM) [dsl (.int .u8 0) []] fun d => [dsl (.int .u8 0) (g.leaf d.1.1 d.1.2.1)]
structure CatA where
  s : Int
  n : Int
  i : Int
structure CatB where
  r : List Value
  n : Int
  i : Int
def catSh : Shape := ⟨slotsOf 36 [(6, .one (.zero (.osl 0 zP))), (25, .one (.zero (.deep (dsl zP [])))), (26, .one (.zero .hole)), (27, .one (.zero .hole))], [some .tok]⟩
def catLs (xss : List Value) (I : CatA → Prop) (m : CatA → Nat) (J : CatB → Prop) (l : CatB → Nat) : Loops := fun id => if id = 0 then some [{ D := CatA, sh := ⟨slotsOf 36 [(0, .one (.zero (.deep (dsl zP [])))), (3, .one (.zero .hole)), (9, .one (.zero (.deep (dsl zP [])))), (10, .one (.zero .hole)), (11, .one (.zero .hole))], []⟩, rho := fun _ => [], fills := fun d => [.dl xss, .val (.int .i64 d.s), .dl xss, .val (.int .i64 d.n), .val (.int .i64 d.i)], I := I, m := m }] else
  if id = 2 then some [{ D := CatB, sh := catSh, rho := catSh.find 0, fills := fun d => [.dl d.r, .dl xss, .val (.int .i64 d.n), .val (.int .i64 d.i)], I := J, m := l }] else none
structure OneL where
  n : Int
  r : List Value
def oneSh : Shape := ⟨slotsOf 26 [(0, .one (.zero .hole)), (3, .one (.zero (.osl 0 (.int .u8 0))))], [some .tok]⟩
def oneLs (I : OneL → Prop) (m : OneL → Nat) : Loops := loop1 { D := OneL, sh := oneSh, rho := oneSh.find 0, fills := fun d => [.val (.int .i64 d.n), .dl d.r], I := I, m := m } 0
def textSh : Shape := ⟨slotsOf 21 [(3, .one (.zero (.osl 0 (.int .u8 0)))), (6, .one (.zero (.deep zS))), (7, .one (.zero .hole)), (8, .one (.zero .hole))], [some .tok]⟩
def textLs (xs : List Value) (I : CatB → Prop) (m : CatB → Nat) : Loops := loop1 { D := CatB, sh := textSh, rho := textSh.find 0, fills := fun d => [.dl d.r, .dl xs, .val (.int .i64 d.n), .val (.int .i64 d.i)], I := I, m := m } 0
def rngCon : Con := conL [(67, pcon (bsP S g)), (34, pcon (cloneP S))]
def withinCon : Con := conL [(15, withinC S)]
def textCon : Con := conL [(57, pcon (oneP S g))]
def playsP : PF := pf (.cons cIs (.cons cP .nil)) (fun _ => True) [.bool false] fun _ => [.bool true]
structure PlL where
  i : Int
  a : List Value
  b : List Value
def playsLs (xs ps : List Value) (I : PlL → Prop) (m : PlL → Nat) : Loops := loop1 { D := PlL, sh := ⟨slotsOf 165 [(0, .one (.zero (.deep zI))), (1, .one (.zero (.deep zP))), (5, .one (.zero (.deep zP))), (6, .one (.zero (.deep zP))), (7, .one (.zero .hole))], []⟩, rho := fun _ => [], fills := fun d => [.dl xs, .dl ps, .dl d.a, .dl d.b, .val (.int .i64 d.i)], I := I, m := m } 0
def pairsP : PF := pf (.cons cIs .nil) (fun d => ∀ i, S.nlt i (S.len d.1) → inI S (S.dint (S.get zI d.1 i))) [dsl zP []] fun d => [dsl zP (g.pairs d.1)]
structure PaL where
  i : Int
  es : List (Value × Value)
structure PaM where
  r : List Value
  n : Int
  i : Int
  es : List (Value × Value)
def pairsSh : Shape := ⟨slotsOf 54 [(0, .one (.zero (.deep zI))), (3, .one (.zero (.map 0))), (4, .one (.zero .hole))], [some (.smap zS zS)]⟩
def pairsSh2 : Shape := ⟨slotsOf 54 [(3, .one (.zero (.map 0))), (5, .one (.zero (.osl 1 zP))), (33, .one (.zero (.deep zS))), (34, .one (.zero .hole)), (35, .one (.zero .hole))], [some (.smap zS zS), some .tok]⟩
def pairsLs (xs ks : List Value) (I : PaL → Prop) (m : PaL → Nat) (J : PaM → Prop) (q : PaM → Nat) : Loops := fun id =>
  if id = 0 then some [{ D := PaL, sh := pairsSh, rho := pairsSh.find 0, fills := fun d => [.dl xs, .val (.int .i64 d.i), .me d.es], I := I, m := m }] else
  if id = 2 then some [{ D := PaM, sh := pairsSh2, rho := pairsSh2.find 0, fills := fun d => [.dl d.r, .dl ks, .val (.int .i64 d.n), .val (.int .i64 d.i), .me d.es], I := J, m := q }] else none
def pairsCon : Con := noCon.draw [(39, dcon (keyP S g)), (38, dcon (txtP S g))]
def rangesP : PF := pf (.cons cIs (.cons cI64 (.cons cI64 (.cons cI64 (.cons cP .nil))))) (fun _ => True) [.bool false] fun _ => [.bool true]
structure RgA where
  j : Int
  n : Int
  i : Int
structure RgC where
  n : Int
  i : Int
  a : Int
  m : Int
  e : Int
def rangesLs (ps l r : List Value) (k1 k2 k3 : ByteArray) (I : RgA → Prop) (m : RgA → Nat) (J : NIL → Prop) (q : NIL → Nat) (G : RgC → Prop) (w : RgC → Nat) : Loops := fun id =>
  if id = 0 then some [{ D := RgA, sh := ⟨slotsOf 144 [(4, .one (.zero (.deep zP))), (11, .one (.zero (.deep zP))), (12, .one (.zero .hole)), (13, .one (.zero .hole)), (14, .one (.zero .hole)), (15, .one (.zero (.deep zP))), (16, .one (.zero .hole)), (34, .one (.zero (.deep zP))), (35, .one (.zero .hole)), (36, .one (.zero .hole))], []⟩, rho := fun _ => [], fills := fun d => [.dl ps, .dl l, .val (.string k1), .val (.string k2), .val (.string k3), .dl r, .val (.int .i64 d.j), .dl l, .val (.int .i64 d.n), .val (.int .i64 d.i)], I := I, m := m }] else
  if id = 2 then some [{ D := NIL, sh := ⟨slotsOf 144 [(4, .one (.zero (.deep zP))), (11, .one (.zero (.deep zP))), (99, .one (.zero .hole)), (100, .one (.zero .hole))], []⟩, rho := fun _ => [], fills := fun d => [.dl ps, .dl l, .val (.int .i64 d.n), .val (.int .i64 d.i)], I := J, m := q }] else
  if id = 4 then some [{ D := RgC, sh := ⟨slotsOf 144 [(4, .one (.zero (.deep zP))), (11, .one (.zero (.deep zP))), (19, .one (.zero .hole)), (99, .one (.zero .hole)), (100, .one (.zero .hole)), (104, .one (.zero .hole)), (105, .one (.zero .hole))], []⟩, rho := fun _ => [], fills := fun d => [.dl ps, .dl l, .val (.int .i64 d.a), .val (.int .i64 d.n), .val (.int .i64 d.i), .val (.int .i64 d.m), .val (.int .i64 d.e)], I := G, m := w, gh := some fun d => [.int .i64 d.a, .int .i64 d.n, .int .i64 d.i] }] else none
/-- Within, of any bounds. -/
def withinP : PF := pf (.cons cI64 (.cons cI64 (.cons cI64 .nil))) (fun d => inI S d.1 ∧ S.ile (-1000000000000) d.2.1 ∧ S.ile d.2.1 d.2.2.1 ∧ S.ile d.2.2.1 2000000000000) [zI] fun d => [mk (.int .i64 (g.wi d.1 d.2.1 d.2.2.1))]
structure OrA where
  tu : List Value
  i : Int
structure OrB where
  x : List Value
  tu : List Value
  n : Int
  i : Int
structure OrC where
  x : List Value
  y : List Value
  f : List Value
  i : Int
def orderLs (os l : List Value) (n : Int) (I : OrA → Prop) (m : OrA → Nat) (J : OrB → Prop) (q : OrB → Nat) (G : OrC → Prop) (w : OrC → Nat) : Loops := fun id =>
  if id = 0 then some [{ D := OrA, sh := ⟨slotsOf 159 [(1, .one (.zero (.deep zI))), (2, .one (.zero .hole)), (7, .one (.zero (.deep zP))), (8, .one (.zero (.deep zP))), (9, .one (.zero .hole))], []⟩, rho := fun _ => [], fills := fun d => [.dl os, .val (.int .i64 n), .dl l, .dl d.tu, .val (.int .i64 d.i)], I := I, m := m }] else
  if id = 2 then some [{ D := OrB, sh := ⟨slotsOf 159 [(2, .one (.zero .hole)), (7, .one (.zero (.deep zP))), (11, .one (.zero (.deep zP))), (62, .one (.zero (.deep zP))), (63, .one (.zero .hole)), (64, .one (.zero .hole))], []⟩, rho := fun _ => [], fills := fun d => [.val (.int .i64 n), .dl l, .dl d.x, .dl d.tu, .val (.int .i64 d.n), .val (.int .i64 d.i)], I := J, m := q }] else
  if id = 4 then some [{ D := OrC, sh := ⟨slotsOf 159 [(2, .one (.zero .hole)), (7, .one (.zero (.deep zP))), (11, .one (.zero (.deep zP))), (14, .one (.zero (.deep zP))), (16, .one (.zero (.deep zP))), (89, .one (.zero .hole))], []⟩, rho := fun _ => [], fills := fun d => [.val (.int .i64 n), .dl l, .dl d.x, .dl d.y, .dl d.f, .val (.int .i64 d.i)], I := G, m := w }] else none
def orderP : PF := pf (.cons cIs (.cons cIs (.cons cI64 .nil))) (fun _ => True) [.bool false] fun _ => [.bool true]
def cmpCon : Con := conL [(81, cmpC g.cmp)]
def bsCon : Con := conL [(67, pcon (bsP S g))]
end
end Go.Proofs.Ytmhfnbbamoadgaa
end
section
namespace Go.Proofs.Ytmhfnbbamoadgaa
open Go.RowKit Go.Abs Go
noncomputable section
/-- An object's function's text against what is said of it. -/
def runW (S : Sy) (C : Con) (n : Nat) (LS : Loops) (F : OF) (f : Nat) (fn : Func) (d : FC F.ts) : Prop := runO S Try.prog C (inCallF 60) n LS F fn (bodyS Try.prog f) d
def zY : Value := .int .u8 0
/-- What the functions come to: letters. -/
structure StF where
  one : Int → List Value
  put : List Value → List Value
  numn : List Value → Bool → Int
  numr : List Value → Bool → List Value
  numb : List Value → Bool → Bool
  rtok : ByteArray → Int
  rrew : ByteArray → Int
  rok : ByteArray → Bool
  rcd : Int → Int → ByteArray
  rput : Int → List Value
  rrcd : Int → Int → ByteArray
  nval : ByteArray → Int
  nlen : ByteArray → Int
  qtok : ByteArray → Int
  qrew : ByteArray → Int
  qok : ByteArray → Bool
  bck : List Value → Int
  bok : List Value → Bool
  rbck : List Value → Int
  rbok : List Value → Bool
  stk : Int → List Value → ByteArray → Int → Int → List Value
  ster : Int → List Value → ByteArray → Int → Int → Int
  rstk : Int → List Value → ByteArray → Int → Int → List Value
  rster : Int → List Value → ByteArray → Int → Int → Int
  okl : List Value → Prop
  pick : List Value → Int → Int
variable (S : Sy) (g : KvF) (t : StF)
/-- vint.one of any number. -/
def one1P : PF := pf (.cons cI64 .nil) (fun d => inI S d.1) [dsl zY []] fun d => [dsl zY (t.one d.1)]
/-- vint.Put of few numbers. -/
def putP : PF := pf (.cons cIs .nil) (fun d => S.nle (S.len d.1) LIM ∧ ∀ i, S.nlt i (S.len d.1) → inI S (S.dint (S.get zI d.1 i))) [dsl zY []] fun d => [dsl zY (t.put d.1)]
def rdrB : SB := .cells [.zero (.deep zY), .zero .boo] false
def readO : OF := ⟨[.dl], ⟨[some (.one (.zero (.deep zY)))], []⟩, fun d => S.nle (S.len d.1) 4000000, [.one (.zero (.ptr 0 0))], [some rdrB], fun d => [.dl d.1, .val (.bool false)]⟩
def numO : OF := ⟨[.dl, .boo], ⟨[some (.one (.zero (.ptr 0 0)))], [some rdrB]⟩, fun _ => True, [.one (.zero .hole)], [some rdrB], fun d => [.val (.int .i64 (t.numn d.1 d.2.1)), .dl (t.numr d.1 d.2.1), .val (.bool (t.numb d.1 d.2.1))]⟩
structure NuL where
  n : Int
  s : Int
  b : List Value
  bad : Bool
def numSh : Shape := ⟨slotsOf 44 [(0, .one (.zero (.ptr 0 0))), (3, .one (.zero .hole)), (4, .one (.zero .hole))], [some rdrB]⟩
def numLs (I : NuL → Prop) (m : NuL → Nat) : Loops := loop1 { D := NuL, sh := numSh, rho := numSh.find 1, fills := fun d => [.val (.int .i64 d.n), .val (.int .i64 d.s), .dl d.b, .val (.bool d.bad)], I := I, m := m } 0
def putSh : Shape := ⟨slotsOf 18 [(3, .one (.zero (.osl 0 zY))), (6, .one (.zero (.deep zI))), (7, .one (.zero .hole)), (8, .one (.zero .hole))], [some .tok]⟩
def putLs (xs : List Value) (I : CatB → Prop) (m : CatB → Nat) : Loops := loop1 { D := CatB, sh := putSh, rho := putSh.find 0, fills := fun d => [.dl d.r, .dl xs, .val (.int .i64 d.n), .val (.int .i64 d.i)], I := I, m := m } 0
/-- stake.Read. -/
def rdP : PF := pf (.cons cS .nil) (fun d => S.nle (S.slen d.1) 4000000) [zI, zI, .bool false] fun d => [mk (.int .i64 (t.rtok d.1)), mk (.int .i64 (t.rrew d.1)), mkb (t.rok d.1)]
/-- stake.Record. -/
def rcdP : PF := pf (.cons cI64 (.cons cI64 .nil)) (fun d => inI S d.1 ∧ inI S d.2.1) [zS] fun d => [mk (.string (t.rcd d.1 d.2.1))]
/-- affiantref1.Put of a number that is so great at most. -/
def rputP (k : Int) : PF := pf (.cons cI64 .nil) (fun d => inI S d.1 ∧ S.ile d.1 k) [dsl zY []] (fun d => [dsl zY (t.rput d.1)]) true
def rrcdP : PF := pf (.cons cI64 (.cons cI64 .nil)) (fun d => inI S d.1 ∧ inI S d.2.1) [zS] fun d => [mk (.string (t.rrcd d.1 d.2.1))]
/-- affiantref10.number. -/
def nmP : PF := pf (.cons cS .nil) (fun d => S.nle (S.slen d.1) 9223372036854775807) [zI, zI] fun d => [mk (.int .i64 (t.nval d.1)), mk (.int .i64 (t.nlen d.1))]
structure NmL where
  n : Int
  i : Int
def nmLs (s : ByteArray) (I : NmL → Prop) (m : NmL → Nat) : Loops := loop1 { D := NmL, sh := ⟨slotsOf 46 [(0, .one (.zero .hole)), (4, .one (.zero .hole)), (5, .one (.zero .hole))], []⟩, rho := fun _ => [], fills := fun d => [.val (.string s), .val (.int .i64 d.n), .val (.int .i64 d.i)], I := I, m := m } 0
def qrdP : PF := pf (.cons cS .nil) (fun d => S.nle (S.slen d.1) 9223372036854775807) [zI, zI, .bool false] fun d => [mk (.int .i64 (t.qtok d.1)), mk (.int .i64 (t.qrew d.1)), mkb (t.qok d.1)]
/-- Backing. -/
def valsOk (d : List Value) : Prop := S.nle (S.len d) LIM ∧ ∀ i, S.nlt i (S.len d) → S.nle (S.slen (S.dstr (S.fld (S.get zP d i) 1))) 4000000
def bckP : PF := pf (.cons cP .nil) (fun d => valsOk S d.1) [zI, .bool false] fun d => [mk (.int .i64 (t.bck d.1)), mkb (t.bok d.1)]
def valsOk2 (d : List Value) : Prop := S.nle (S.len d) LIM ∧ ∀ i, S.nlt i (S.len d) → S.nle (S.slen (S.dstr (S.fld (S.get zP d i) 1))) 9223372036854775807
def rbckP : PF := pf (.cons cP .nil) (fun d => valsOk2 S d.1) [zI, .bool false] fun d => [mk (.int .i64 (t.rbck d.1)), mkb (t.rbok d.1)]
structure BkL where
  a : Int
  n : Int
  i : Int
def bckLs (nt : Nat) (xs : List Value) (I : BkL → Prop) (m : BkL → Nat) : Loops := loop1 { D := BkL, sh := ⟨slotsOf nt [(4, .one (.zero .hole)), (10, .one (.zero (.deep zP))), (11, .one (.zero .hole)), (12, .one (.zero .hole))], []⟩, rho := fun _ => [], fills := fun d => [.val (.int .i64 d.a), .dl xs, .val (.int .i64 d.n), .val (.int .i64 d.i)], I := I, m := m } 0
/-- Staking transactions. -/
def stPre (t : StF) (d : List Value) (s : ByteArray) (a b : Int) : Prop := t.okl d ∧ S.nle (S.slen s) LIM ∧ inI S a ∧ inI S b
def delgP : PF := pf (.cons cP (.cons cS (.cons cI64 .nil))) (fun d => stPre S t d.1 d.2.1 d.2.2.1 0) [dsl zP [], zI] fun d => [dsl zP (t.stk 1 d.1 d.2.1 d.2.2.1 0), mk (.int .i64 (t.ster 1 d.1 d.2.1 d.2.2.1 0))]
def rwdP : PF := pf (.cons cP (.cons cS (.cons cI64 .nil))) (fun d => stPre S t d.1 d.2.1 d.2.2.1 0) [dsl zP [], zI] fun d => [dsl zP (t.stk 2 d.1 d.2.1 d.2.2.1 0), mk (.int .i64 (t.ster 2 d.1 d.2.1 d.2.2.1 0))]
def slaP : PF := pf (.cons cP (.cons cS (.cons cI64 (.cons cI64 .nil)))) (fun d => stPre S t d.1 d.2.1 d.2.2.1 d.2.2.2.1) [dsl zP [], zI] fun d => [dsl zP (t.stk 3 d.1 d.2.1 d.2.2.1 d.2.2.2.1), mk (.int .i64 (t.ster 3 d.1 d.2.1 d.2.2.1 d.2.2.2.1))]
def rstkP : PF := pf (.cons cP (.cons cI64 (.cons cS (.cons cI64 (.cons cI64 .nil))))) (fun d => stPre S t d.1 d.2.2.1 d.2.2.2.1 d.2.2.2.2.1 ∧ S.ile 1 d.2.1 ∧ S.ile d.2.1 3) [dsl zP [], zI] fun d => [dsl zP (t.rstk d.2.1 d.1 d.2.2.1 d.2.2.2.1 d.2.2.2.2.1), mk (.int .i64 (t.rster d.2.1 d.1 d.2.2.1 d.2.2.2.1 d.2.2.2.2.1))]
def putCon : Con := conL [(57, pcon (one1P S t))]
def rdCon : Con := conL [(64, ocon (readO S)), (65, ocon (numO t))]
def rcdCon : Con := conL [(36, pcon (putP S t))]
def rputCon (k : Int) : Con := conL [(58, pcon (rputP S t k))]
def nmCon : Con := conL [(59, pcon (nmP S t))]
def bckCon : Con := conL [(52, pcon (rdP S t))]
def rbckCon : Con := conL [(42, pcon (qrdP S t))]
def rstkCon : Con := conL [(63, pcon (rfirstP S g)), (47, pcon (rsetP S g)), (42, pcon (qrdP S t)), (37, pcon (rrcdP S t)), (21, pcon (rbckP S t))]
end
end Go.Proofs.Ytmhfnbbamoadgaa
end
section
namespace Go.Proofs.Ytmhfnbbamoadgaa
open Go.Abs Go
set_option maxRecDepth 100000 in
theorem one1_vc (t : StF) (n : Int) (I : OneL → Prop) (m : OneL → Nat) : runP std noCon 40 (oneLs I m) (one1P std t) 57 Try.f57 (n, ()) =
  ((((decide (n < (0 : Int))) = true) → ([(dsl (.int .u8 0) [])] = [(dsl (.int .u8 0) (t.one n))])) ∧ (((decide (n < (0 : Int))) = false) → ((((decide ((1099511627775 : Int) < n)) = true) → ([(dsl (.int .u8 0) [])] = [(dsl (.int .u8 0) (t.one n))])) ∧ (((decide ((1099511627775 : Int) < n)) = false) → (∃ (d8 : OneL), (([(Filler.val (Value.int IntKind.i64 (d8.n))), (Filler.dl (d8.r))] = [(Filler.val (Value.int IntKind.i64 n)), (Filler.dl [])]) ∧ ((I d8) ∧ (∀ (d9 : OneL), ((I d9) → ((((decide ((127 : Int) < (d9.n))) = true) → ((((List.length ((d9.r) ++ [(Value.int IntKind.u8 (std.wrap IntKind.u8 (std.bor IntKind.i64 (std.band IntKind.i64 (d9.n) (127 : Int)) (128 : Int))))])) * 1) ≤ 140737488355328) ∧ (((0 : Int) ≤ (7 : Int)) ∧ (∃ (d12 : OneL), (([(Filler.val (Value.int IntKind.i64 (d12.n))), (Filler.dl (d12.r))] = [(Filler.val (Value.int IntKind.i64 (std.shr IntKind.i64 (d9.n) (7 : Int)))), (Filler.dl ((d9.r) ++ [(Value.int IntKind.u8 (std.wrap IntKind.u8 (std.bor IntKind.i64 (std.band IntKind.i64 (d9.n) (127 : Int)) (128 : Int))))]))]) ∧ ((Nat.le (Nat.succ (m d12)) (m d9)) ∧ (I d12))))))) ∧ (((decide ((127 : Int) < (d9.n))) = false) → ((((List.length ((d9.r) ++ [(Value.int IntKind.u8 (std.wrap IntKind.u8 (d9.n)))])) * 1) ≤ 140737488355328) ∧ ([(dsl (.int .u8 0) ((d9.r) ++ [(Value.int IntKind.u8 (std.wrap IntKind.u8 (d9.n)))]))] = [(dsl (.int .u8 0) (t.one n))]))))))))))))) := by kernel_rfl
set_option maxRecDepth 100000 in
theorem put_vc (t : StF) (xs : List Value) (I : CatB → Prop) (m : CatB → Nat) : runP std (putCon std t) 40 (putLs xs I m) (putP std t) 36 Try.f36 (xs, ()) =
  (∃ (d6 : CatB), (([(Filler.dl (d6.r)), (Filler.dl xs), (Filler.val (Value.int IntKind.i64 (d6.n))), (Filler.val (Value.int IntKind.i64 (d6.i)))] = [(Filler.dl []), (Filler.dl xs), (Filler.val (Value.int IntKind.i64 ((List.length xs) : Int))), (Filler.val (Value.int IntKind.i64 (0 : Int)))]) ∧ ((I d6) ∧ (∀ (d7 : CatB), ((I d7) → ((((decide ((d7.i) < (d7.n))) = true) → ((((0 : Int) ≤ (d7.i)) ∧ ((d7.i) < ((List.length xs) : Int))) ∧ ((((-9223372036854775808 : Int) ≤ (eI xs (Int.toNat (d7.i)))) ∧ ((eI xs (Int.toNat (d7.i))) ≤ (9223372036854775807 : Int))) ∧ ((((List.length ((d7.r) ++ (t.one (eI xs (Int.toNat (d7.i)))))) * 1) ≤ 140737488355328) ∧ ((((-9223372036854775808 : Int) ≤ ((d7.i) + (1 : Int))) ∧ (((d7.i) + (1 : Int)) ≤ (9223372036854775807 : Int))) ∧ (∃ (d10 : CatB), (([(Filler.dl (d10.r)), (Filler.dl xs), (Filler.val (Value.int IntKind.i64 (d10.n))), (Filler.val (Value.int IntKind.i64 (d10.i)))] = [(Filler.dl ((d7.r) ++ (t.one (eI xs (Int.toNat (d7.i)))))), (Filler.dl xs), (Filler.val (Value.int IntKind.i64 (d7.n))), (Filler.val (Value.int IntKind.i64 ((d7.i) + (1 : Int))))]) ∧ ((Nat.le (Nat.succ (m d10)) (m d7)) ∧ (I d10))))))))) ∧ (((decide ((d7.i) < (d7.n))) = false) → ([(dsl (.int .u8 0) (d7.r))] = [(dsl (.int .u8 0) (t.put xs))])))))))) := by kernel_rfl
set_option maxRecDepth 100000 in
theorem read_vc (xs : List Value) : runW std noCon 40 noL (readO std) 64 Try.f64 (xs, ()) =
  ((((List.length xs) * 1) ≤ 140737488355328) ∧ ([(Filler.dl xs), (Filler.val (Value.bool false))] = [(Filler.dl xs), (Filler.val (Value.bool false))])) := by kernel_rfl
set_option maxRecDepth 100000 in
theorem num_vc (t : StF) (b : List Value) (bad : Bool) (I : NuL → Prop) (m : NuL → Nat) : runW std noCon 60 (numLs I m) (numO t) 65 Try.f65 (b, bad, ()) =
  (∃ (d7 : NuL), (([(Filler.val (Value.int IntKind.i64 (d7.n))), (Filler.val (Value.int IntKind.i64 (d7.s))), (Filler.dl (d7.b)), (Filler.val (Value.bool (d7.bad)))] = [(Filler.val (Value.int IntKind.i64 (0 : Int))), (Filler.val (Value.int IntKind.i64 (0 : Int))), (Filler.dl b), (Filler.val (Value.bool bad))]) ∧ ((I d7) ∧ (∀ (d8 : NuL), ((I d8) → ((((decide ((d8.s) < (42 : Int))) = true) → ((((d8.bad) = true) → ([(Filler.val (Value.int IntKind.i64 (t.numn b bad))), (Filler.dl (t.numr b bad)), (Filler.val (Value.bool (t.numb b bad)))] = [(Filler.val (Value.int IntKind.i64 (0 : Int))), (Filler.dl (d8.b)), (Filler.val (Value.bool true))])) ∧ (((d8.bad) = false) → ((((decide (((List.length (d8.b)) : Int) < (1 : Int))) = true) → ([(Filler.val (Value.int IntKind.i64 (t.numn b bad))), (Filler.dl (t.numr b bad)), (Filler.val (Value.bool (t.numb b bad)))] = [(Filler.val (Value.int IntKind.i64 (0 : Int))), (Filler.dl (d8.b)), (Filler.val (Value.bool true))])) ∧ (((decide (((List.length (d8.b)) : Int) < (1 : Int))) = false) → (((((0 : Int) ≤ (1 : Int)) ∧ ((1 : Int) ≤ ((List.length (d8.b)) : Int))) ∧ True) ∧ ((True ∧ (((0 : Int) ≤ (1 : Int)) ∧ ((1 : Int) ≤ ((List.length (d8.b)) : Int)))) ∧ (((((((List.length (List.take ((Int.toNat (1 : Int)) - 0) (List.drop 0 (d8.b)))) : Nat) : Int) == (0 : Int)) = true) → ([(Filler.val (Value.int IntKind.i64 (t.numn b bad))), (Filler.dl (t.numr b bad)), (Filler.val (Value.bool (t.numb b bad)))] = [(Filler.val (Value.int IntKind.i64 (0 : Int))), (Filler.dl (List.take ((List.length (d8.b)) - (Int.toNat (1 : Int))) (List.drop (Int.toNat (1 : Int)) (d8.b)))), (Filler.val (Value.bool (d8.bad)))])) ∧ ((((((List.length (List.take ((Int.toNat (1 : Int)) - 0) (List.drop 0 (d8.b)))) : Nat) : Int) == (0 : Int)) = false) → ((((0 : Int) ≤ (0 : Int)) ∧ ((0 : Int) < (((List.length (List.take ((Int.toNat (1 : Int)) - 0) (List.drop 0 (d8.b)))) : Nat) : Int))) ∧ (((0 : Int) ≤ (d8.s)) ∧ ((((0 : Int) ≤ (0 : Int)) ∧ ((0 : Int) < (((List.length (List.take ((Int.toNat (1 : Int)) - 0) (List.drop 0 (d8.b)))) : Nat) : Int))) ∧ ((((decide ((eB (List.take ((Int.toNat (1 : Int)) - 0) (List.drop 0 (d8.b))) (Int.toNat (0 : Int))) < (128 : Int))) = true) → ((((decide ((1099511627775 : Int) < (std.bor IntKind.i64 (d8.n) (std.shl IntKind.i64 (std.wrap IntKind.i64 (std.band IntKind.u8 (eB (List.take ((Int.toNat (1 : Int)) - 0) (List.drop 0 (d8.b))) (Int.toNat (0 : Int))) (127 : Int))) (d8.s))))) = true) → ([(Filler.val (Value.int IntKind.i64 (t.numn b bad))), (Filler.dl (t.numr b bad)), (Filler.val (Value.bool (t.numb b bad)))] = [(Filler.val (Value.int IntKind.i64 (0 : Int))), (Filler.dl (List.take ((List.length (d8.b)) - (Int.toNat (1 : Int))) (List.drop (Int.toNat (1 : Int)) (d8.b)))), (Filler.val (Value.bool true))])) ∧ (((decide ((1099511627775 : Int) < (std.bor IntKind.i64 (d8.n) (std.shl IntKind.i64 (std.wrap IntKind.i64 (std.band IntKind.u8 (eB (List.take ((Int.toNat (1 : Int)) - 0) (List.drop 0 (d8.b))) (Int.toNat (0 : Int))) (127 : Int))) (d8.s))))) = false) → ((((0 : Int) ≤ (0 : Int)) ∧ ((0 : Int) < (((List.length (List.take ((Int.toNat (1 : Int)) - 0) (List.drop 0 (d8.b)))) : Nat) : Int))) ∧ (((((eB (List.take ((Int.toNat (1 : Int)) - 0) (List.drop 0 (d8.b))) (Int.toNat (0 : Int))) == (0 : Int)) = true) → ((((decide ((0 : Int) < (d8.s))) = true) → ([(Filler.val (Value.int IntKind.i64 (t.numn b bad))), (Filler.dl (t.numr b bad)), (Filler.val (Value.bool (t.numb b bad)))] = [(Filler.val (Value.int IntKind.i64 (0 : Int))), (Filler.dl (List.take ((List.length (d8.b)) - (Int.toNat (1 : Int))) (List.drop (Int.toNat (1 : Int)) (d8.b)))), (Filler.val (Value.bool true))])) ∧ (((decide ((0 : Int) < (d8.s))) = false) → ([(Filler.val (Value.int IntKind.i64 (t.numn b bad))), (Filler.dl (t.numr b bad)), (Filler.val (Value.bool (t.numb b bad)))] = [(Filler.val (Value.int IntKind.i64 (std.bor IntKind.i64 (d8.n) (std.shl IntKind.i64 (std.wrap IntKind.i64 (std.band IntKind.u8 (eB (List.take ((Int.toNat (1 : Int)) - 0) (List.drop 0 (d8.b))) (Int.toNat (0 : Int))) (127 : Int))) (d8.s))))), (Filler.dl (List.take ((List.length (d8.b)) - (Int.toNat (1 : Int))) (List.drop (Int.toNat (1 : Int)) (d8.b)))), (Filler.val (Value.bool (d8.bad)))])))) ∧ ((((eB (List.take ((Int.toNat (1 : Int)) - 0) (List.drop 0 (d8.b))) (Int.toNat (0 : Int))) == (0 : Int)) = false) → ([(Filler.val (Value.int IntKind.i64 (t.numn b bad))), (Filler.dl (t.numr b bad)), (Filler.val (Value.bool (t.numb b bad)))] = [(Filler.val (Value.int IntKind.i64 (std.bor IntKind.i64 (d8.n) (std.shl IntKind.i64 (std.wrap IntKind.i64 (std.band IntKind.u8 (eB (List.take ((Int.toNat (1 : Int)) - 0) (List.drop 0 (d8.b))) (Int.toNat (0 : Int))) (127 : Int))) (d8.s))))), (Filler.dl (List.take ((List.length (d8.b)) - (Int.toNat (1 : Int))) (List.drop (Int.toNat (1 : Int)) (d8.b)))), (Filler.val (Value.bool (d8.bad)))]))))))) ∧ (((decide ((eB (List.take ((Int.toNat (1 : Int)) - 0) (List.drop 0 (d8.b))) (Int.toNat (0 : Int))) < (128 : Int))) = false) → ((((-9223372036854775808 : Int) ≤ ((d8.s) + (7 : Int))) ∧ (((d8.s) + (7 : Int)) ≤ (9223372036854775807 : Int))) ∧ (∃ (d15 : NuL), (([(Filler.val (Value.int IntKind.i64 (d15.n))), (Filler.val (Value.int IntKind.i64 (d15.s))), (Filler.dl (d15.b)), (Filler.val (Value.bool (d15.bad)))] = [(Filler.val (Value.int IntKind.i64 (std.bor IntKind.i64 (d8.n) (std.shl IntKind.i64 (std.wrap IntKind.i64 (std.band IntKind.u8 (eB (List.take ((Int.toNat (1 : Int)) - 0) (List.drop 0 (d8.b))) (Int.toNat (0 : Int))) (127 : Int))) (d8.s))))), (Filler.val (Value.int IntKind.i64 ((d8.s) + (7 : Int)))), (Filler.dl (List.take ((List.length (d8.b)) - (Int.toNat (1 : Int))) (List.drop (Int.toNat (1 : Int)) (d8.b)))), (Filler.val (Value.bool (d8.bad)))]) ∧ ((Nat.le (Nat.succ (m d15)) (m d8)) ∧ (I d15))))))))))))))))))) ∧ (((decide ((d8.s) < (42 : Int))) = false) → ([(Filler.val (Value.int IntKind.i64 (t.numn b bad))), (Filler.dl (t.numr b bad)), (Filler.val (Value.bool (t.numb b bad)))] = [(Filler.val (Value.int IntKind.i64 (0 : Int))), (Filler.dl (d8.b)), (Filler.val (Value.bool true))])))))))) := by kernel_rfl
set_option maxRecDepth 100000 in
theorem rd_vc (t : StF) (s : ByteArray) : runP std (rdCon std t) 60 noL (rdP std t) 52 Try.f52 (s, ()) =
  (((List.length (std.svals s)) ≤ 4000000) ∧ (True ∧ (True ∧ ((((t.numb (t.numr (std.svals s) false) (t.numb (std.svals s) false)) = true) → ([(Value.int IntKind.i64 (0 : Int)), (Value.int IntKind.i64 (0 : Int)), (Value.bool false)] = [(Value.int IntKind.i64 (t.rtok s)), (Value.int IntKind.i64 (t.rrew s)), (Value.bool (t.rok s))])) ∧ (((t.numb (t.numr (std.svals s) false) (t.numb (std.svals s) false)) = false) → ((((((List.length (t.numr (t.numr (std.svals s) false) (t.numb (std.svals s) false))) : Int) == (0 : Int)) = true) → ((((decide ((0 : Int) ≤ (t.numn (std.svals s) false))) = true) → ((((decide ((t.numn (std.svals s) false) ≤ (1073741824 : Int))) = true) → ((((decide ((0 : Int) ≤ (t.numn (t.numr (std.svals s) false) (t.numb (std.svals s) false)))) = true) → ((((decide ((t.numn (t.numr (std.svals s) false) (t.numb (std.svals s) false)) ≤ (1073741824 : Int))) = true) → ([(Value.int IntKind.i64 (t.numn (std.svals s) false)), (Value.int IntKind.i64 (t.numn (t.numr (std.svals s) false) (t.numb (std.svals s) false))), (Value.bool true)] = [(Value.int IntKind.i64 (t.rtok s)), (Value.int IntKind.i64 (t.rrew s)), (Value.bool (t.rok s))])) ∧ (((decide ((t.numn (t.numr (std.svals s) false) (t.numb (std.svals s) false)) ≤ (1073741824 : Int))) = false) → ([(Value.int IntKind.i64 (0 : Int)), (Value.int IntKind.i64 (0 : Int)), (Value.bool false)] = [(Value.int IntKind.i64 (t.rtok s)), (Value.int IntKind.i64 (t.rrew s)), (Value.bool (t.rok s))])))) ∧ (((decide ((0 : Int) ≤ (t.numn (t.numr (std.svals s) false) (t.numb (std.svals s) false)))) = false) → ([(Value.int IntKind.i64 (0 : Int)), (Value.int IntKind.i64 (0 : Int)), (Value.bool false)] = [(Value.int IntKind.i64 (t.rtok s)), (Value.int IntKind.i64 (t.rrew s)), (Value.bool (t.rok s))])))) ∧ (((decide ((t.numn (std.svals s) false) ≤ (1073741824 : Int))) = false) → ([(Value.int IntKind.i64 (0 : Int)), (Value.int IntKind.i64 (0 : Int)), (Value.bool false)] = [(Value.int IntKind.i64 (t.rtok s)), (Value.int IntKind.i64 (t.rrew s)), (Value.bool (t.rok s))])))) ∧ (((decide ((0 : Int) ≤ (t.numn (std.svals s) false))) = false) → ([(Value.int IntKind.i64 (0 : Int)), (Value.int IntKind.i64 (0 : Int)), (Value.bool false)] = [(Value.int IntKind.i64 (t.rtok s)), (Value.int IntKind.i64 (t.rrew s)), (Value.bool (t.rok s))])))) ∧ (((((List.length (t.numr (t.numr (std.svals s) false) (t.numb (std.svals s) false))) : Int) == (0 : Int)) = false) → ([(Value.int IntKind.i64 (0 : Int)), (Value.int IntKind.i64 (0 : Int)), (Value.bool false)] = [(Value.int IntKind.i64 (t.rtok s)), (Value.int IntKind.i64 (t.rrew s)), (Value.bool (t.rok s))])))))))) := by kernel_rfl
set_option maxRecDepth 100000 in
theorem rcd_vc (t : StF) (a b : Int) : runP std (rcdCon std t) 60 noL (rcdP std t) 10 Try.f10 (a, b, ()) =
  ((((decide ((0 : Int) ≤ a)) = true) → ((((decide (a ≤ (1073741824 : Int))) = true) → ((((decide ((0 : Int) ≤ b)) = true) → ((((decide (b ≤ (1073741824 : Int))) = true) → ((((List.length [(Value.int IntKind.i64 a), (Value.int IntKind.i64 b)]) ≤ 1000000) ∧ (∀ (i9 : Nat), ((i9 < (List.length [(Value.int IntKind.i64 a), (Value.int IntKind.i64 b)])) → (((-9223372036854775808 : Int) ≤ (eI [(Value.int IntKind.i64 a), (Value.int IntKind.i64 b)] i9)) ∧ ((eI [(Value.int IntKind.i64 a), (Value.int IntKind.i64 b)] i9) ≤ (9223372036854775807 : Int)))))) ∧ ([(Value.string (std.sof (std.ints (t.put [(Value.int IntKind.i64 a), (Value.int IntKind.i64 b)]))))] = [(Value.string (t.rcd a b))]))) ∧ (((decide (b ≤ (1073741824 : Int))) = false) → ([(Value.string (ByteArray.mk (Array.mk [])))] = [(Value.string (t.rcd a b))])))) ∧ (((decide ((0 : Int) ≤ b)) = false) → ([(Value.string (ByteArray.mk (Array.mk [])))] = [(Value.string (t.rcd a b))])))) ∧ (((decide (a ≤ (1073741824 : Int))) = false) → ([(Value.string (ByteArray.mk (Array.mk [])))] = [(Value.string (t.rcd a b))])))) ∧ (((decide ((0 : Int) ≤ a)) = false) → ([(Value.string (ByteArray.mk (Array.mk [])))] = [(Value.string (t.rcd a b))]))) := by kernel_rfl
set_option maxRecDepth 100000 in
theorem rput_vc (t : StF) (k n : Int) : runP std (rputCon std t k) 60 noL (rputP std t k) 58 Try.f58 (n, ()) =
  ((((decide (n < (0 : Int))) = true) → ([] = (t.rput n))) ∧ (((decide (n < (0 : Int))) = false) → ((((decide ((1099511627775 : Int) < n)) = true) → ([] = (t.rput n))) ∧ (((decide ((1099511627775 : Int) < n)) = false) → ((((decide (n < (128 : Int))) = true) → ([(Value.int IntKind.u8 (std.wrap IntKind.u8 n))] = (t.rput n))) ∧ (((decide (n < (128 : Int))) = false) → (((0 : Int) ≤ (7 : Int)) ∧ (((((-9223372036854775808 : Int) ≤ (std.shr IntKind.i64 n (7 : Int))) ∧ ((std.shr IntKind.i64 n (7 : Int)) ≤ (9223372036854775807 : Int))) ∧ ((std.shr IntKind.i64 n (7 : Int)) ≤ k)) ∧ ((((List.length ([(Value.int IntKind.u8 (std.wrap IntKind.u8 (std.bor IntKind.i64 (std.band IntKind.i64 n (127 : Int)) (128 : Int))))] ++ (t.rput (std.shr IntKind.i64 n (7 : Int))))) * 1) ≤ 140737488355328) ∧ (([(Value.int IntKind.u8 (std.wrap IntKind.u8 (std.bor IntKind.i64 (std.band IntKind.i64 n (127 : Int)) (128 : Int))))] ++ (t.rput (std.shr IntKind.i64 n (7 : Int)))) = (t.rput n))))))))))) := by kernel_rfl
set_option maxRecDepth 100000 in
theorem rrcd_vc (t : StF) (k a b : Int) : runP std (rputCon std t k) 60 noL (rrcdP std t) 37 Try.f37 (a, b, ()) =
  (((((-9223372036854775808 : Int) ≤ a) ∧ (a ≤ (9223372036854775807 : Int))) ∧ (a ≤ k)) ∧ (((((-9223372036854775808 : Int) ≤ b) ∧ (b ≤ (9223372036854775807 : Int))) ∧ (b ≤ k)) ∧ ((((List.length ((t.rput a) ++ (t.rput b))) * 1) ≤ 140737488355328) ∧ ([(Value.string (std.sof (std.ints ((t.rput a) ++ (t.rput b)))))] = [(Value.string (t.rrcd a b))])))) := by kernel_rfl
set_option maxRecDepth 100000 in
theorem nm_vc (t : StF) (s : ByteArray) (I : NmL → Prop) (m : NmL → Nat) : runP std noCon 60 (nmLs s I m) (nmP std t) 59 Try.f59 (s, ()) =
  (∃ (d6 : NmL), (([(Filler.val (Value.string s)), (Filler.val (Value.int IntKind.i64 (d6.n))), (Filler.val (Value.int IntKind.i64 (d6.i)))] = [(Filler.val (Value.string s)), (Filler.val (Value.int IntKind.i64 (0 : Int))), (Filler.val (Value.int IntKind.i64 (0 : Int)))]) ∧ ((I d6) ∧ (∀ (d7 : NmL), ((I d7) → ((((decide ((d7.i) < ((std.slen s) : Int))) = true) → ((((decide ((d7.i) < (6 : Int))) = true) → ((((0 : Int) ≤ (d7.i)) ∧ ((d7.i) < ((std.slen s) : Int))) ∧ ((((-9223372036854775808 : Int) ≤ ((7 : Int) * (d7.i))) ∧ (((7 : Int) * (d7.i)) ≤ (9223372036854775807 : Int))) ∧ (((0 : Int) ≤ (std.wrap IntKind.u64 ((7 : Int) * (d7.i)))) ∧ ((((0 : Int) ≤ (d7.i)) ∧ ((d7.i) < ((std.slen s) : Int))) ∧ ((((decide ((std.sget s (Int.toNat (d7.i))) < (128 : Int))) = true) → ((((decide ((0 : Int) < (d7.i))) = true) → ((((0 : Int) ≤ (d7.i)) ∧ ((d7.i) < ((std.slen s) : Int))) ∧ (((((std.sget s (Int.toNat (d7.i))) == (0 : Int)) = true) → ([(Value.int IntKind.i64 (0 : Int)), (Value.int IntKind.i64 (0 : Int))] = [(Value.int IntKind.i64 (t.nval s)), (Value.int IntKind.i64 (t.nlen s))])) ∧ ((((std.sget s (Int.toNat (d7.i))) == (0 : Int)) = false) → ((((decide ((1099511627775 : Int) < (std.bor IntKind.i64 (d7.n) (std.shl IntKind.i64 (std.wrap IntKind.i64 (std.band IntKind.u8 (std.sget s (Int.toNat (d7.i))) (127 : Int))) (std.wrap IntKind.u64 ((7 : Int) * (d7.i))))))) = true) → ([(Value.int IntKind.i64 (0 : Int)), (Value.int IntKind.i64 (0 : Int))] = [(Value.int IntKind.i64 (t.nval s)), (Value.int IntKind.i64 (t.nlen s))])) ∧ (((decide ((1099511627775 : Int) < (std.bor IntKind.i64 (d7.n) (std.shl IntKind.i64 (std.wrap IntKind.i64 (std.band IntKind.u8 (std.sget s (Int.toNat (d7.i))) (127 : Int))) (std.wrap IntKind.u64 ((7 : Int) * (d7.i))))))) = false) → ((((-9223372036854775808 : Int) ≤ ((d7.i) + (1 : Int))) ∧ (((d7.i) + (1 : Int)) ≤ (9223372036854775807 : Int))) ∧ ([(Value.int IntKind.i64 (std.bor IntKind.i64 (d7.n) (std.shl IntKind.i64 (std.wrap IntKind.i64 (std.band IntKind.u8 (std.sget s (Int.toNat (d7.i))) (127 : Int))) (std.wrap IntKind.u64 ((7 : Int) * (d7.i)))))), (Value.int IntKind.i64 ((d7.i) + (1 : Int)))] = [(Value.int IntKind.i64 (t.nval s)), (Value.int IntKind.i64 (t.nlen s))])))))))) ∧ (((decide ((0 : Int) < (d7.i))) = false) → ((((decide ((1099511627775 : Int) < (std.bor IntKind.i64 (d7.n) (std.shl IntKind.i64 (std.wrap IntKind.i64 (std.band IntKind.u8 (std.sget s (Int.toNat (d7.i))) (127 : Int))) (std.wrap IntKind.u64 ((7 : Int) * (d7.i))))))) = true) → ([(Value.int IntKind.i64 (0 : Int)), (Value.int IntKind.i64 (0 : Int))] = [(Value.int IntKind.i64 (t.nval s)), (Value.int IntKind.i64 (t.nlen s))])) ∧ (((decide ((1099511627775 : Int) < (std.bor IntKind.i64 (d7.n) (std.shl IntKind.i64 (std.wrap IntKind.i64 (std.band IntKind.u8 (std.sget s (Int.toNat (d7.i))) (127 : Int))) (std.wrap IntKind.u64 ((7 : Int) * (d7.i))))))) = false) → ((((-9223372036854775808 : Int) ≤ ((d7.i) + (1 : Int))) ∧ (((d7.i) + (1 : Int)) ≤ (9223372036854775807 : Int))) ∧ ([(Value.int IntKind.i64 (std.bor IntKind.i64 (d7.n) (std.shl IntKind.i64 (std.wrap IntKind.i64 (std.band IntKind.u8 (std.sget s (Int.toNat (d7.i))) (127 : Int))) (std.wrap IntKind.u64 ((7 : Int) * (d7.i)))))), (Value.int IntKind.i64 ((d7.i) + (1 : Int)))] = [(Value.int IntKind.i64 (t.nval s)), (Value.int IntKind.i64 (t.nlen s))]))))))) ∧ (((decide ((std.sget s (Int.toNat (d7.i))) < (128 : Int))) = false) → ((((-9223372036854775808 : Int) ≤ ((d7.i) + (1 : Int))) ∧ (((d7.i) + (1 : Int)) ≤ (9223372036854775807 : Int))) ∧ (∃ (d12 : NmL), (([(Filler.val (Value.string s)), (Filler.val (Value.int IntKind.i64 (d12.n))), (Filler.val (Value.int IntKind.i64 (d12.i)))] = [(Filler.val (Value.string s)), (Filler.val (Value.int IntKind.i64 (std.bor IntKind.i64 (d7.n) (std.shl IntKind.i64 (std.wrap IntKind.i64 (std.band IntKind.u8 (std.sget s (Int.toNat (d7.i))) (127 : Int))) (std.wrap IntKind.u64 ((7 : Int) * (d7.i))))))), (Filler.val (Value.int IntKind.i64 ((d7.i) + (1 : Int))))]) ∧ ((Nat.le (Nat.succ (m d12)) (m d7)) ∧ (I d12)))))))))))) ∧ (((decide ((d7.i) < (6 : Int))) = false) → ([(Value.int IntKind.i64 (0 : Int)), (Value.int IntKind.i64 (0 : Int))] = [(Value.int IntKind.i64 (t.nval s)), (Value.int IntKind.i64 (t.nlen s))])))) ∧ (((decide ((d7.i) < ((std.slen s) : Int))) = false) → ([(Value.int IntKind.i64 (0 : Int)), (Value.int IntKind.i64 (0 : Int))] = [(Value.int IntKind.i64 (t.nval s)), (Value.int IntKind.i64 (t.nlen s))])))))))) := by kernel_rfl
set_option maxRecDepth 100000 in
theorem qrd_vc (t : StF) (s : ByteArray) : runP std (nmCon std t) 60 noL (qrdP std t) 42 Try.f42 (s, ()) =
  (((std.slen s) ≤ 9223372036854775807) ∧ (((((t.nlen s) == (0 : Int)) = true) → ([(Value.int IntKind.i64 (0 : Int)), (Value.int IntKind.i64 (0 : Int)), (Value.bool false)] = [(Value.int IntKind.i64 (t.qtok s)), (Value.int IntKind.i64 (t.qrew s)), (Value.bool (t.qok s))])) ∧ ((((t.nlen s) == (0 : Int)) = false) → ((True ∧ (((0 : Int) ≤ (t.nlen s)) ∧ ((t.nlen s) ≤ ((std.slen s) : Int)))) ∧ (((std.slen (std.ssub s (Int.toNat (t.nlen s)) (std.slen s))) ≤ 9223372036854775807) ∧ (((((t.nlen (std.ssub s (Int.toNat (t.nlen s)) (std.slen s))) == (0 : Int)) = true) → ([(Value.int IntKind.i64 (0 : Int)), (Value.int IntKind.i64 (0 : Int)), (Value.bool false)] = [(Value.int IntKind.i64 (t.qtok s)), (Value.int IntKind.i64 (t.qrew s)), (Value.bool (t.qok s))])) ∧ ((((t.nlen (std.ssub s (Int.toNat (t.nlen s)) (std.slen s))) == (0 : Int)) = false) → ((((-9223372036854775808 : Int) ≤ ((t.nlen s) + (t.nlen (std.ssub s (Int.toNat (t.nlen s)) (std.slen s))))) ∧ (((t.nlen s) + (t.nlen (std.ssub s (Int.toNat (t.nlen s)) (std.slen s)))) ≤ (9223372036854775807 : Int))) ∧ ((((!(((t.nlen s) + (t.nlen (std.ssub s (Int.toNat (t.nlen s)) (std.slen s)))) == ((std.slen s) : Int))) = true) → ([(Value.int IntKind.i64 (0 : Int)), (Value.int IntKind.i64 (0 : Int)), (Value.bool false)] = [(Value.int IntKind.i64 (t.qtok s)), (Value.int IntKind.i64 (t.qrew s)), (Value.bool (t.qok s))])) ∧ (((!(((t.nlen s) + (t.nlen (std.ssub s (Int.toNat (t.nlen s)) (std.slen s)))) == ((std.slen s) : Int))) = false) → ((((decide ((1073741824 : Int) < (t.nval s))) = true) → ([(Value.int IntKind.i64 (0 : Int)), (Value.int IntKind.i64 (0 : Int)), (Value.bool false)] = [(Value.int IntKind.i64 (t.qtok s)), (Value.int IntKind.i64 (t.qrew s)), (Value.bool (t.qok s))])) ∧ (((decide ((1073741824 : Int) < (t.nval s))) = false) → ((((decide ((1073741824 : Int) < (t.nval (std.ssub s (Int.toNat (t.nlen s)) (std.slen s))))) = true) → ([(Value.int IntKind.i64 (0 : Int)), (Value.int IntKind.i64 (0 : Int)), (Value.bool false)] = [(Value.int IntKind.i64 (t.qtok s)), (Value.int IntKind.i64 (t.qrew s)), (Value.bool (t.qok s))])) ∧ (((decide ((1073741824 : Int) < (t.nval (std.ssub s (Int.toNat (t.nlen s)) (std.slen s))))) = false) → ([(Value.int IntKind.i64 (t.nval s)), (Value.int IntKind.i64 (t.nval (std.ssub s (Int.toNat (t.nlen s)) (std.slen s)))), (Value.bool true)] = [(Value.int IntKind.i64 (t.qtok s)), (Value.int IntKind.i64 (t.qrew s)), (Value.bool (t.qok s))]))))))))))))))) := by kernel_rfl
set_option maxRecDepth 100000 in
theorem bck_vc (t : StF) (xs : List Value) (I : BkL → Prop) (m : BkL → Nat) : runP std (bckCon std t) 60 (bckLs 39 xs I m) (bckP std t) 28 Try.f28 (xs, ()) =
  (∃ (d6 : BkL), (([(Filler.val (Value.int IntKind.i64 (d6.a))), (Filler.dl xs), (Filler.val (Value.int IntKind.i64 (d6.n))), (Filler.val (Value.int IntKind.i64 (d6.i)))] = [(Filler.val (Value.int IntKind.i64 (0 : Int))), (Filler.dl xs), (Filler.val (Value.int IntKind.i64 ((List.length xs) : Int))), (Filler.val (Value.int IntKind.i64 (0 : Int)))]) ∧ ((I d6) ∧ (∀ (d7 : BkL), ((I d7) → ((((decide ((d7.i) < (d7.n))) = true) → ((((0 : Int) ≤ (d7.i)) ∧ ((d7.i) < ((List.length xs) : Int))) ∧ ((((decide ((2 : Int) ≤ ((std.slen (kP xs (Int.toNat (d7.i)))) : Int))) = true) → (((((0 : Int) ≤ (2 : Int)) ∧ ((2 : Int) ≤ ((std.slen (kP xs (Int.toNat (d7.i)))) : Int))) ∧ True) ∧ ((((std.seq (std.ssub (kP xs (Int.toNat (d7.i))) 0 (Int.toNat (2 : Int))) (ByteArray.mk (Array.mk [(115 : UInt8), (47 : UInt8)]))) = true) → (((std.slen (vP xs (Int.toNat (d7.i)))) ≤ 4000000) ∧ ((((t.rok (vP xs (Int.toNat (d7.i)))) = true) → ((((-9223372036854775808 : Int) ≤ ((t.rtok (vP xs (Int.toNat (d7.i)))) + (t.rrew (vP xs (Int.toNat (d7.i)))))) ∧ (((t.rtok (vP xs (Int.toNat (d7.i)))) + (t.rrew (vP xs (Int.toNat (d7.i))))) ≤ (9223372036854775807 : Int))) ∧ ((((-9223372036854775808 : Int) ≤ ((d7.a) + ((t.rtok (vP xs (Int.toNat (d7.i)))) + (t.rrew (vP xs (Int.toNat (d7.i))))))) ∧ (((d7.a) + ((t.rtok (vP xs (Int.toNat (d7.i)))) + (t.rrew (vP xs (Int.toNat (d7.i)))))) ≤ (9223372036854775807 : Int))) ∧ ((((-9223372036854775808 : Int) ≤ ((d7.i) + (1 : Int))) ∧ (((d7.i) + (1 : Int)) ≤ (9223372036854775807 : Int))) ∧ (∃ (d13 : BkL), (([(Filler.val (Value.int IntKind.i64 (d13.a))), (Filler.dl xs), (Filler.val (Value.int IntKind.i64 (d13.n))), (Filler.val (Value.int IntKind.i64 (d13.i)))] = [(Filler.val (Value.int IntKind.i64 ((d7.a) + ((t.rtok (vP xs (Int.toNat (d7.i)))) + (t.rrew (vP xs (Int.toNat (d7.i)))))))), (Filler.dl xs), (Filler.val (Value.int IntKind.i64 (d7.n))), (Filler.val (Value.int IntKind.i64 ((d7.i) + (1 : Int))))]) ∧ ((Nat.le (Nat.succ (m d13)) (m d7)) ∧ (I d13)))))))) ∧ (((t.rok (vP xs (Int.toNat (d7.i)))) = false) → ([(Value.int IntKind.i64 (0 : Int)), (Value.bool false)] = [(Value.int IntKind.i64 (t.bck xs)), (Value.bool (t.bok xs))]))))) ∧ (((std.seq (std.ssub (kP xs (Int.toNat (d7.i))) 0 (Int.toNat (2 : Int))) (ByteArray.mk (Array.mk [(115 : UInt8), (47 : UInt8)]))) = false) → ((((-9223372036854775808 : Int) ≤ ((d7.i) + (1 : Int))) ∧ (((d7.i) + (1 : Int)) ≤ (9223372036854775807 : Int))) ∧ (∃ (d12 : BkL), (([(Filler.val (Value.int IntKind.i64 (d12.a))), (Filler.dl xs), (Filler.val (Value.int IntKind.i64 (d12.n))), (Filler.val (Value.int IntKind.i64 (d12.i)))] = [(Filler.val (Value.int IntKind.i64 (d7.a))), (Filler.dl xs), (Filler.val (Value.int IntKind.i64 (d7.n))), (Filler.val (Value.int IntKind.i64 ((d7.i) + (1 : Int))))]) ∧ ((Nat.le (Nat.succ (m d12)) (m d7)) ∧ (I d12))))))))) ∧ (((decide ((2 : Int) ≤ ((std.slen (kP xs (Int.toNat (d7.i)))) : Int))) = false) → ((((-9223372036854775808 : Int) ≤ ((d7.i) + (1 : Int))) ∧ (((d7.i) + (1 : Int)) ≤ (9223372036854775807 : Int))) ∧ (∃ (d11 : BkL), (([(Filler.val (Value.int IntKind.i64 (d11.a))), (Filler.dl xs), (Filler.val (Value.int IntKind.i64 (d11.n))), (Filler.val (Value.int IntKind.i64 (d11.i)))] = [(Filler.val (Value.int IntKind.i64 (d7.a))), (Filler.dl xs), (Filler.val (Value.int IntKind.i64 (d7.n))), (Filler.val (Value.int IntKind.i64 ((d7.i) + (1 : Int))))]) ∧ ((Nat.le (Nat.succ (m d11)) (m d7)) ∧ (I d11))))))))) ∧ (((decide ((d7.i) < (d7.n))) = false) → ((((decide ((0 : Int) ≤ (d7.a))) = true) → ((((decide ((d7.a) ≤ (1073741824 : Int))) = true) → ([(Value.int IntKind.i64 (d7.a)), (Value.bool true)] = [(Value.int IntKind.i64 (t.bck xs)), (Value.bool (t.bok xs))])) ∧ (((decide ((d7.a) ≤ (1073741824 : Int))) = false) → ([(Value.int IntKind.i64 (0 : Int)), (Value.bool false)] = [(Value.int IntKind.i64 (t.bck xs)), (Value.bool (t.bok xs))])))) ∧ (((decide ((0 : Int) ≤ (d7.a))) = false) → ([(Value.int IntKind.i64 (0 : Int)), (Value.bool false)] = [(Value.int IntKind.i64 (t.bck xs)), (Value.bool (t.bok xs))])))))))))) := by kernel_rfl
set_option maxRecDepth 100000 in
theorem rbck_vc (t : StF) (xs : List Value) (I : BkL → Prop) (m : BkL → Nat) : runP std (rbckCon std t) 60 (bckLs 38 xs I m) (rbckP std t) 21 Try.f21 (xs, ()) =
  (∃ (d6 : BkL), (([(Filler.val (Value.int IntKind.i64 (d6.a))), (Filler.dl xs), (Filler.val (Value.int IntKind.i64 (d6.n))), (Filler.val (Value.int IntKind.i64 (d6.i)))] = [(Filler.val (Value.int IntKind.i64 (0 : Int))), (Filler.dl xs), (Filler.val (Value.int IntKind.i64 ((List.length xs) : Int))), (Filler.val (Value.int IntKind.i64 (0 : Int)))]) ∧ ((I d6) ∧ (∀ (d7 : BkL), ((I d7) → ((((decide ((d7.i) < (d7.n))) = true) → ((((0 : Int) ≤ (d7.i)) ∧ ((d7.i) < ((List.length xs) : Int))) ∧ ((((decide ((2 : Int) ≤ ((std.slen (kP xs (Int.toNat (d7.i)))) : Int))) = true) → (((((0 : Int) ≤ (2 : Int)) ∧ ((2 : Int) ≤ ((std.slen (kP xs (Int.toNat (d7.i)))) : Int))) ∧ True) ∧ ((((std.seq (std.ssub (kP xs (Int.toNat (d7.i))) 0 (Int.toNat (2 : Int))) (ByteArray.mk (Array.mk [(115 : UInt8), (47 : UInt8)]))) = true) → (((std.slen (vP xs (Int.toNat (d7.i)))) ≤ 9223372036854775807) ∧ ((((t.qok (vP xs (Int.toNat (d7.i)))) = true) → ((((-9223372036854775808 : Int) ≤ ((d7.a) + (t.qtok (vP xs (Int.toNat (d7.i)))))) ∧ (((d7.a) + (t.qtok (vP xs (Int.toNat (d7.i))))) ≤ (9223372036854775807 : Int))) ∧ ((((-9223372036854775808 : Int) ≤ (((d7.a) + (t.qtok (vP xs (Int.toNat (d7.i))))) + (t.qrew (vP xs (Int.toNat (d7.i)))))) ∧ ((((d7.a) + (t.qtok (vP xs (Int.toNat (d7.i))))) + (t.qrew (vP xs (Int.toNat (d7.i))))) ≤ (9223372036854775807 : Int))) ∧ ((((-9223372036854775808 : Int) ≤ ((d7.i) + (1 : Int))) ∧ (((d7.i) + (1 : Int)) ≤ (9223372036854775807 : Int))) ∧ (∃ (d13 : BkL), (([(Filler.val (Value.int IntKind.i64 (d13.a))), (Filler.dl xs), (Filler.val (Value.int IntKind.i64 (d13.n))), (Filler.val (Value.int IntKind.i64 (d13.i)))] = [(Filler.val (Value.int IntKind.i64 (((d7.a) + (t.qtok (vP xs (Int.toNat (d7.i))))) + (t.qrew (vP xs (Int.toNat (d7.i))))))), (Filler.dl xs), (Filler.val (Value.int IntKind.i64 (d7.n))), (Filler.val (Value.int IntKind.i64 ((d7.i) + (1 : Int))))]) ∧ ((Nat.le (Nat.succ (m d13)) (m d7)) ∧ (I d13)))))))) ∧ (((t.qok (vP xs (Int.toNat (d7.i)))) = false) → ([(Value.int IntKind.i64 (0 : Int)), (Value.bool false)] = [(Value.int IntKind.i64 (t.rbck xs)), (Value.bool (t.rbok xs))]))))) ∧ (((std.seq (std.ssub (kP xs (Int.toNat (d7.i))) 0 (Int.toNat (2 : Int))) (ByteArray.mk (Array.mk [(115 : UInt8), (47 : UInt8)]))) = false) → ((((-9223372036854775808 : Int) ≤ ((d7.i) + (1 : Int))) ∧ (((d7.i) + (1 : Int)) ≤ (9223372036854775807 : Int))) ∧ (∃ (d12 : BkL), (([(Filler.val (Value.int IntKind.i64 (d12.a))), (Filler.dl xs), (Filler.val (Value.int IntKind.i64 (d12.n))), (Filler.val (Value.int IntKind.i64 (d12.i)))] = [(Filler.val (Value.int IntKind.i64 (d7.a))), (Filler.dl xs), (Filler.val (Value.int IntKind.i64 (d7.n))), (Filler.val (Value.int IntKind.i64 ((d7.i) + (1 : Int))))]) ∧ ((Nat.le (Nat.succ (m d12)) (m d7)) ∧ (I d12))))))))) ∧ (((decide ((2 : Int) ≤ ((std.slen (kP xs (Int.toNat (d7.i)))) : Int))) = false) → ((((-9223372036854775808 : Int) ≤ ((d7.i) + (1 : Int))) ∧ (((d7.i) + (1 : Int)) ≤ (9223372036854775807 : Int))) ∧ (∃ (d11 : BkL), (([(Filler.val (Value.int IntKind.i64 (d11.a))), (Filler.dl xs), (Filler.val (Value.int IntKind.i64 (d11.n))), (Filler.val (Value.int IntKind.i64 (d11.i)))] = [(Filler.val (Value.int IntKind.i64 (d7.a))), (Filler.dl xs), (Filler.val (Value.int IntKind.i64 (d7.n))), (Filler.val (Value.int IntKind.i64 ((d7.i) + (1 : Int))))]) ∧ ((Nat.le (Nat.succ (m d11)) (m d7)) ∧ (I d11))))))))) ∧ (((decide ((d7.i) < (d7.n))) = false) → ((((decide ((1073741824 : Int) < (d7.a))) = true) → ([(Value.int IntKind.i64 (0 : Int)), (Value.bool false)] = [(Value.int IntKind.i64 (t.rbck xs)), (Value.bool (t.rbok xs))])) ∧ (((decide ((1073741824 : Int) < (d7.a))) = false) → ([(Value.int IntKind.i64 (d7.a)), (Value.bool true)] = [(Value.int IntKind.i64 (t.rbck xs)), (Value.bool (t.rbok xs))])))))))))) := by kernel_rfl
end Go.Proofs.Ytmhfnbbamoadgaa
end
section
namespace Go.Proofs.Ytmhfnbbamoadgaa
open Go.Abs Go
set_option maxRecDepth 100000 in
theorem bs_vc (g : KvF) (xs : List Value) (k : ByteArray) (I : BsL → Prop) (m : BsL → Nat) : runP std (cmpCon g) 40 (bsLs xs k I m) (bsP std g) 67 Try.f67 (xs, k, (), ()) =
  (∃ (d7 : BsL), (([(Filler.dl xs), (Filler.val (Value.string k)), (Filler.val (Value.int IntKind.i64 (d7.n))), (Filler.val (Value.int IntKind.i64 (d7.i))), (Filler.val (Value.int IntKind.i64 (d7.j)))] = [(Filler.dl xs), (Filler.val (Value.string k)), (Filler.val (Value.int IntKind.i64 ((List.length xs) : Int))), (Filler.val (Value.int IntKind.i64 (0 : Int))), (Filler.val (Value.int IntKind.i64 ((List.length xs) : Int)))]) ∧ ((I d7) ∧ (∀ (d8 : BsL), ((I d8) → ((((decide ((d8.i) < (d8.j))) = true) → ((((-9223372036854775808 : Int) ≤ ((d8.i) + (d8.j))) ∧ (((d8.i) + (d8.j)) ≤ (9223372036854775807 : Int))) ∧ (((0 : Int) ≤ (1 : Int)) ∧ ((((0 : Int) ≤ (std.wrap IntKind.i64 (std.shr IntKind.u64 (std.wrap IntKind.u64 ((d8.i) + (d8.j))) (1 : Int)))) ∧ ((std.wrap IntKind.i64 (std.shr IntKind.u64 (std.wrap IntKind.u64 ((d8.i) + (d8.j))) (1 : Int))) < ((List.length xs) : Int))) ∧ ((((decide ((g.cmp (kP xs (Int.toNat (std.wrap IntKind.i64 (std.shr IntKind.u64 (std.wrap IntKind.u64 ((d8.i) + (d8.j))) (1 : Int))))) k) < (0 : Int))) = true) → ((((-9223372036854775808 : Int) ≤ ((std.wrap IntKind.i64 (std.shr IntKind.u64 (std.wrap IntKind.u64 ((d8.i) + (d8.j))) (1 : Int))) + (1 : Int))) ∧ (((std.wrap IntKind.i64 (std.shr IntKind.u64 (std.wrap IntKind.u64 ((d8.i) + (d8.j))) (1 : Int))) + (1 : Int)) ≤ (9223372036854775807 : Int))) ∧ (∃ (d12 : BsL), (([(Filler.dl xs), (Filler.val (Value.string k)), (Filler.val (Value.int IntKind.i64 (d12.n))), (Filler.val (Value.int IntKind.i64 (d12.i))), (Filler.val (Value.int IntKind.i64 (d12.j)))] = [(Filler.dl xs), (Filler.val (Value.string k)), (Filler.val (Value.int IntKind.i64 (d8.n))), (Filler.val (Value.int IntKind.i64 ((std.wrap IntKind.i64 (std.shr IntKind.u64 (std.wrap IntKind.u64 ((d8.i) + (d8.j))) (1 : Int))) + (1 : Int)))), (Filler.val (Value.int IntKind.i64 (d8.j)))]) ∧ ((Nat.le (Nat.succ (m d12)) (m d8)) ∧ (I d12)))))) ∧ (((decide ((g.cmp (kP xs (Int.toNat (std.wrap IntKind.i64 (std.shr IntKind.u64 (std.wrap IntKind.u64 ((d8.i) + (d8.j))) (1 : Int))))) k) < (0 : Int))) = false) → (∃ (d12 : BsL), (([(Filler.dl xs), (Filler.val (Value.string k)), (Filler.val (Value.int IntKind.i64 (d12.n))), (Filler.val (Value.int IntKind.i64 (d12.i))), (Filler.val (Value.int IntKind.i64 (d12.j)))] = [(Filler.dl xs), (Filler.val (Value.string k)), (Filler.val (Value.int IntKind.i64 (d8.n))), (Filler.val (Value.int IntKind.i64 (d8.i))), (Filler.val (Value.int IntKind.i64 (std.wrap IntKind.i64 (std.shr IntKind.u64 (std.wrap IntKind.u64 ((d8.i) + (d8.j))) (1 : Int)))))]) ∧ ((Nat.le (Nat.succ (m d12)) (m d8)) ∧ (I d12)))))))))) ∧ (((decide ((d8.i) < (d8.j))) = false) → ((((decide ((d8.i) < (d8.n))) = true) → ((((0 : Int) ≤ (d8.i)) ∧ ((d8.i) < ((List.length xs) : Int))) ∧ (((((g.cmp (kP xs (Int.toNat (d8.i))) k) == (0 : Int)) = true) → ([(Value.int IntKind.i64 (d8.i)), (Value.bool true)] = [(Value.int IntKind.i64 (g.bs xs k)), (Value.bool (g.fd xs k))])) ∧ ((((g.cmp (kP xs (Int.toNat (d8.i))) k) == (0 : Int)) = false) → ([(Value.int IntKind.i64 (d8.i)), (Value.bool false)] = [(Value.int IntKind.i64 (g.bs xs k)), (Value.bool (g.fd xs k))]))))) ∧ (((decide ((d8.i) < (d8.n))) = false) → ([(Value.int IntKind.i64 (d8.i)), (Value.bool false)] = [(Value.int IntKind.i64 (g.bs xs k)), (Value.bool (g.fd xs k))])))))))))) := by kernel_rfl
set_option maxRecDepth 100000 in
theorem may_vc (g : KvF) (k v : ByteArray) : runP std noCon 40 noL (mayP g) 55 Try.f55 ((k, v, ()), ()) =
  ((((!(std.seq k (ByteArray.mk (Array.mk [])))) = true) → ((((decide (((std.slen k) : Int) ≤ (16 : Int))) = true) → ((((decide (((std.slen v) : Int) ≤ (24 : Int))) = true) → ([(Value.bool true)] = [(Value.bool (g.may k v))])) ∧ (((decide (((std.slen v) : Int) ≤ (24 : Int))) = false) → ([(Value.bool false)] = [(Value.bool (g.may k v))])))) ∧ (((decide (((std.slen k) : Int) ≤ (16 : Int))) = false) → ([(Value.bool false)] = [(Value.bool (g.may k v))])))) ∧ (((!(std.seq k (ByteArray.mk (Array.mk [])))) = false) → ([(Value.bool false)] = [(Value.bool (g.may k v))]))) := by kernel_rfl
set_option maxRecDepth 100000 in
theorem rmay_vc (g : KvF) (k v : ByteArray) : runP std noCon 40 noL (rmayP g) 41 Try.f41 ((k, v, ()), ()) =
  ((((decide ((1 : Int) ≤ ((std.slen k) : Int))) = true) → ((((decide (((std.slen k) : Int) ≤ (16 : Int))) = true) → ((((decide (((std.slen v) : Int) ≤ (24 : Int))) = true) → ([(Value.bool true)] = [(Value.bool (g.rmay k v))])) ∧ (((decide (((std.slen v) : Int) ≤ (24 : Int))) = false) → ([(Value.bool false)] = [(Value.bool (g.rmay k v))])))) ∧ (((decide (((std.slen k) : Int) ≤ (16 : Int))) = false) → ([(Value.bool false)] = [(Value.bool (g.rmay k v))])))) ∧ (((decide ((1 : Int) ≤ ((std.slen k) : Int))) = false) → ([(Value.bool false)] = [(Value.bool (g.rmay k v))]))) := by kernel_rfl
set_option maxRecDepth 100000 in
theorem right_vc (g : KvF) (xs : List Value) (I : NIL → Prop) (m : NIL → Nat) : runP std (noCon.draw [(55, dcon (mayP g))]) 40 (walkLs 34 0 5 6 7 xs I m) (rightP std g) 31 Try.f31 (xs, ()) =
  (∃ (d6 : NIL), (([(Filler.dl xs), (Filler.dl xs), (Filler.val (Value.int IntKind.i64 (d6.n))), (Filler.val (Value.int IntKind.i64 (d6.i)))] = [(Filler.dl xs), (Filler.dl xs), (Filler.val (Value.int IntKind.i64 ((List.length xs) : Int))), (Filler.val (Value.int IntKind.i64 (0 : Int)))]) ∧ ((I d6) ∧ (∀ (d7 : NIL), ((I d7) → ((((decide ((d7.i) < (d7.n))) = true) → ((((0 : Int) ≤ (d7.i)) ∧ ((d7.i) < ((List.length xs) : Int))) ∧ (True ∧ ((((g.may (kP xs (Int.toNat (d7.i))) (vP xs (Int.toNat (d7.i)))) = true) → ((((decide ((0 : Int) < (d7.i))) = true) → ((((-9223372036854775808 : Int) ≤ ((d7.i) - (1 : Int))) ∧ (((d7.i) - (1 : Int)) ≤ (9223372036854775807 : Int))) ∧ ((((0 : Int) ≤ ((d7.i) - (1 : Int))) ∧ (((d7.i) - (1 : Int)) < ((List.length xs) : Int))) ∧ ((((!(std.slt (kP xs (Int.toNat ((d7.i) - (1 : Int)))) (kP xs (Int.toNat (d7.i))))) = true) → ([(Value.bool false)] = [(Value.bool (g.right xs))])) ∧ (((!(std.slt (kP xs (Int.toNat ((d7.i) - (1 : Int)))) (kP xs (Int.toNat (d7.i))))) = false) → ((((-9223372036854775808 : Int) ≤ ((d7.i) + (1 : Int))) ∧ (((d7.i) + (1 : Int)) ≤ (9223372036854775807 : Int))) ∧ (∃ (d13 : NIL), (([(Filler.dl xs), (Filler.dl xs), (Filler.val (Value.int IntKind.i64 (d13.n))), (Filler.val (Value.int IntKind.i64 (d13.i)))] = [(Filler.dl xs), (Filler.dl xs), (Filler.val (Value.int IntKind.i64 (d7.n))), (Filler.val (Value.int IntKind.i64 ((d7.i) + (1 : Int))))]) ∧ ((Nat.le (Nat.succ (m d13)) (m d7)) ∧ (I d13)))))))))) ∧ (((decide ((0 : Int) < (d7.i))) = false) → ((((-9223372036854775808 : Int) ≤ ((d7.i) + (1 : Int))) ∧ (((d7.i) + (1 : Int)) ≤ (9223372036854775807 : Int))) ∧ (∃ (d12 : NIL), (([(Filler.dl xs), (Filler.dl xs), (Filler.val (Value.int IntKind.i64 (d12.n))), (Filler.val (Value.int IntKind.i64 (d12.i)))] = [(Filler.dl xs), (Filler.dl xs), (Filler.val (Value.int IntKind.i64 (d7.n))), (Filler.val (Value.int IntKind.i64 ((d7.i) + (1 : Int))))]) ∧ ((Nat.le (Nat.succ (m d12)) (m d7)) ∧ (I d12)))))))) ∧ (((g.may (kP xs (Int.toNat (d7.i))) (vP xs (Int.toNat (d7.i)))) = false) → ([(Value.bool false)] = [(Value.bool (g.right xs))])))))) ∧ (((decide ((d7.i) < (d7.n))) = false) → ((((decide (((List.length xs) : Int) ≤ (30 : Int))) = true) → ([(Value.bool true)] = [(Value.bool (g.right xs))])) ∧ (((decide (((List.length xs) : Int) ≤ (30 : Int))) = false) → ([(Value.bool false)] = [(Value.bool (g.right xs))])))))))))) := by kernel_rfl
set_option maxRecDepth 100000 in
theorem rright_vc (g : KvF) (xs : List Value) (I : NIL → Prop) (m : NIL → Nat) : runP std (noCon.draw [(41, dcon (rmayP g))]) 40 (walkLs 34 0 5 6 7 xs I m) (rrightP std g) 19 Try.f19 (xs, ()) =
  (∃ (d6 : NIL), (([(Filler.dl xs), (Filler.dl xs), (Filler.val (Value.int IntKind.i64 (d6.n))), (Filler.val (Value.int IntKind.i64 (d6.i)))] = [(Filler.dl xs), (Filler.dl xs), (Filler.val (Value.int IntKind.i64 ((List.length xs) : Int))), (Filler.val (Value.int IntKind.i64 (0 : Int)))]) ∧ ((I d6) ∧ (∀ (d7 : NIL), ((I d7) → ((((decide ((d7.i) < (d7.n))) = true) → ((((0 : Int) ≤ (d7.i)) ∧ ((d7.i) < ((List.length xs) : Int))) ∧ (True ∧ ((((g.rmay (kP xs (Int.toNat (d7.i))) (vP xs (Int.toNat (d7.i)))) = true) → ((((decide ((0 : Int) < (d7.i))) = true) → ((((-9223372036854775808 : Int) ≤ ((d7.i) - (1 : Int))) ∧ (((d7.i) - (1 : Int)) ≤ (9223372036854775807 : Int))) ∧ ((((0 : Int) ≤ ((d7.i) - (1 : Int))) ∧ (((d7.i) - (1 : Int)) < ((List.length xs) : Int))) ∧ ((((!(std.slt (kP xs (Int.toNat ((d7.i) - (1 : Int)))) (kP xs (Int.toNat (d7.i))))) = true) → ([(Value.bool false)] = [(Value.bool (g.rright xs))])) ∧ (((!(std.slt (kP xs (Int.toNat ((d7.i) - (1 : Int)))) (kP xs (Int.toNat (d7.i))))) = false) → ((((-9223372036854775808 : Int) ≤ ((d7.i) + (1 : Int))) ∧ (((d7.i) + (1 : Int)) ≤ (9223372036854775807 : Int))) ∧ (∃ (d13 : NIL), (([(Filler.dl xs), (Filler.dl xs), (Filler.val (Value.int IntKind.i64 (d13.n))), (Filler.val (Value.int IntKind.i64 (d13.i)))] = [(Filler.dl xs), (Filler.dl xs), (Filler.val (Value.int IntKind.i64 (d7.n))), (Filler.val (Value.int IntKind.i64 ((d7.i) + (1 : Int))))]) ∧ ((Nat.le (Nat.succ (m d13)) (m d7)) ∧ (I d13)))))))))) ∧ (((decide ((0 : Int) < (d7.i))) = false) → ((((-9223372036854775808 : Int) ≤ ((d7.i) + (1 : Int))) ∧ (((d7.i) + (1 : Int)) ≤ (9223372036854775807 : Int))) ∧ (∃ (d12 : NIL), (([(Filler.dl xs), (Filler.dl xs), (Filler.val (Value.int IntKind.i64 (d12.n))), (Filler.val (Value.int IntKind.i64 (d12.i)))] = [(Filler.dl xs), (Filler.dl xs), (Filler.val (Value.int IntKind.i64 (d7.n))), (Filler.val (Value.int IntKind.i64 ((d7.i) + (1 : Int))))]) ∧ ((Nat.le (Nat.succ (m d12)) (m d7)) ∧ (I d12)))))))) ∧ (((g.rmay (kP xs (Int.toNat (d7.i))) (vP xs (Int.toNat (d7.i)))) = false) → ([(Value.bool false)] = [(Value.bool (g.rright xs))])))))) ∧ (((decide ((d7.i) < (d7.n))) = false) → ((((decide (((List.length xs) : Int) ≤ (30 : Int))) = true) → ([(Value.bool true)] = [(Value.bool (g.rright xs))])) ∧ (((decide (((List.length xs) : Int) ≤ (30 : Int))) = false) → ([(Value.bool false)] = [(Value.bool (g.rright xs))])))))))))) := by kernel_rfl
set_option maxRecDepth 100000 in
theorem same_vc (g : KvF) (xs ys : List Value) (I : IL → Prop) (m : IL → Nat) : runP std noCon 40 (sameLs zP xs ys I m) (sameP std g) 22 Try.f22 (xs, ys, ()) =
  ((((!(((List.length xs) : Int) == ((List.length ys) : Int))) = true) → ([(Value.bool false)] = [(Value.bool (g.same xs ys))])) ∧ (((!(((List.length xs) : Int) == ((List.length ys) : Int))) = false) → (∃ (d8 : IL), (([(Filler.dl xs), (Filler.dl ys), (Filler.val (Value.int IntKind.i64 (d8.i)))] = [(Filler.dl xs), (Filler.dl ys), (Filler.val (Value.int IntKind.i64 (0 : Int)))]) ∧ ((I d8) ∧ (∀ (d9 : IL), ((I d9) → ((((decide ((d9.i) < ((List.length xs) : Int))) = true) → ((((0 : Int) ≤ (d9.i)) ∧ ((d9.i) < ((List.length xs) : Int))) ∧ ((((0 : Int) ≤ (d9.i)) ∧ ((d9.i) < ((List.length ys) : Int))) ∧ ((((!((std.seq (kP xs (Int.toNat (d9.i))) (kP ys (Int.toNat (d9.i)))) && (std.seq (vP xs (Int.toNat (d9.i))) (vP ys (Int.toNat (d9.i)))))) = true) → ([(Value.bool false)] = [(Value.bool (g.same xs ys))])) ∧ (((!((std.seq (kP xs (Int.toNat (d9.i))) (kP ys (Int.toNat (d9.i)))) && (std.seq (vP xs (Int.toNat (d9.i))) (vP ys (Int.toNat (d9.i)))))) = false) → ((((-9223372036854775808 : Int) ≤ ((d9.i) + (1 : Int))) ∧ (((d9.i) + (1 : Int)) ≤ (9223372036854775807 : Int))) ∧ (∃ (d13 : IL), (([(Filler.dl xs), (Filler.dl ys), (Filler.val (Value.int IntKind.i64 (d13.i)))] = [(Filler.dl xs), (Filler.dl ys), (Filler.val (Value.int IntKind.i64 ((d9.i) + (1 : Int))))]) ∧ ((Nat.le (Nat.succ (m d13)) (m d9)) ∧ (I d13)))))))))) ∧ (((decide ((d9.i) < ((List.length xs) : Int))) = false) → ([(Value.bool true)] = [(Value.bool (g.same xs ys))])))))))))) := by kernel_rfl
set_option maxRecDepth 100000 in
theorem first_vc (g : KvF) (xs : List Value) (k : ByteArray) : runP std (bsCon std g) 40 noL (firstP std g) 51 Try.f51 (xs, k, ()) =
  (((List.length xs) ≤ 1000000) ∧ ((((g.fd xs k) = true) → ([(Value.int IntKind.i64 (g.bs xs k))] = [(Value.int IntKind.i64 (g.bs xs k))])) ∧ (((g.fd xs k) = false) → ([(Value.int IntKind.i64 (g.bs xs k))] = [(Value.int IntKind.i64 (g.bs xs k))])))) := by kernel_rfl
set_option maxRecDepth 100000 in
theorem get_vc (g : KvF) (xs : List Value) (k : ByteArray) : runP std (bsCon std g) 40 noL (getP std g) 29 Try.f29 (xs, k, ()) =
  (((List.length xs) ≤ 1000000) ∧ ((((g.fd xs k) = true) → ((((0 : Int) ≤ (g.bs xs k)) ∧ ((g.bs xs k) < ((List.length xs) : Int))) ∧ ([(Value.string (vP xs (Int.toNat (g.bs xs k)))), (Value.bool true)] = [(Value.string (g.get xs k)), (Value.bool (g.fd xs k))]))) ∧ (((g.fd xs k) = false) → ([(Value.string (ByteArray.mk (Array.mk []))), (Value.bool false)] = [(Value.string (g.get xs k)), (Value.bool (g.fd xs k))])))) := by kernel_rfl
set_option maxRecDepth 100000 in
theorem rfirst_vc (g : KvF) (xs : List Value) (k : ByteArray) (I : IL → Prop) (m : IL → Nat) : runP std noCon 40 (rfirstLs xs k I m) (rfirstP std g) 63 Try.f63 (xs, k, ()) =
  (∃ (d7 : IL), (([(Filler.dl xs), (Filler.val (Value.string k)), (Filler.val (Value.int IntKind.i64 (d7.i)))] = [(Filler.dl xs), (Filler.val (Value.string k)), (Filler.val (Value.int IntKind.i64 (0 : Int)))]) ∧ ((I d7) ∧ (∀ (d8 : IL), ((I d8) → ((((decide ((d8.i) < ((List.length xs) : Int))) = true) → ((((0 : Int) ≤ (d8.i)) ∧ ((d8.i) < ((List.length xs) : Int))) ∧ ((((std.slt (kP xs (Int.toNat (d8.i))) k) = true) → ((((-9223372036854775808 : Int) ≤ ((d8.i) + (1 : Int))) ∧ (((d8.i) + (1 : Int)) ≤ (9223372036854775807 : Int))) ∧ (∃ (d12 : IL), (([(Filler.dl xs), (Filler.val (Value.string k)), (Filler.val (Value.int IntKind.i64 (d12.i)))] = [(Filler.dl xs), (Filler.val (Value.string k)), (Filler.val (Value.int IntKind.i64 ((d8.i) + (1 : Int))))]) ∧ ((Nat.le (Nat.succ (m d12)) (m d8)) ∧ (I d12)))))) ∧ (((std.slt (kP xs (Int.toNat (d8.i))) k) = false) → ([(Value.int IntKind.i64 (d8.i))] = [(Value.int IntKind.i64 (g.rfirst xs k))]))))) ∧ (((decide ((d8.i) < ((List.length xs) : Int))) = false) → ([(Value.int IntKind.i64 (d8.i))] = [(Value.int IntKind.i64 (g.rfirst xs k))])))))))) := by kernel_rfl
set_option maxRecDepth 100000 in
theorem rdel_vc (g : KvF) (xs : List Value) (k : ByteArray) (I : DelL → Prop) (m : DelL → Nat) : runP std noCon 40 (rdelLs xs k I m) (rdelP std g) 48 Try.f48 (xs, k, ()) =
  (∃ (d7 : DelL), (([(Filler.val (Value.string k)), (Filler.dl (d7.r)), (Filler.dl xs), (Filler.val (Value.int IntKind.i64 (d7.n))), (Filler.val (Value.int IntKind.i64 (d7.i)))] = [(Filler.val (Value.string k)), (Filler.dl []), (Filler.dl xs), (Filler.val (Value.int IntKind.i64 ((List.length xs) : Int))), (Filler.val (Value.int IntKind.i64 (0 : Int)))]) ∧ ((I d7) ∧ (∀ (d8 : DelL), ((I d8) → ((((decide ((d8.i) < (d8.n))) = true) → ((((0 : Int) ≤ (d8.i)) ∧ ((d8.i) < ((List.length xs) : Int))) ∧ ((((!(std.seq (kP xs (Int.toNat (d8.i))) k)) = true) → ((((List.length ((d8.r) ++ [(Value.agg (Array.mk [(Value.string (kP xs (Int.toNat (d8.i)))), (Value.string (vP xs (Int.toNat (d8.i))))]))])) * 32) ≤ 140737488355328) ∧ ((((-9223372036854775808 : Int) ≤ ((d8.i) + (1 : Int))) ∧ (((d8.i) + (1 : Int)) ≤ (9223372036854775807 : Int))) ∧ (∃ (d12 : DelL), (([(Filler.val (Value.string k)), (Filler.dl (d12.r)), (Filler.dl xs), (Filler.val (Value.int IntKind.i64 (d12.n))), (Filler.val (Value.int IntKind.i64 (d12.i)))] = [(Filler.val (Value.string k)), (Filler.dl ((d8.r) ++ [(Value.agg (Array.mk [(Value.string (kP xs (Int.toNat (d8.i)))), (Value.string (vP xs (Int.toNat (d8.i))))]))])), (Filler.dl xs), (Filler.val (Value.int IntKind.i64 (d8.n))), (Filler.val (Value.int IntKind.i64 ((d8.i) + (1 : Int))))]) ∧ ((Nat.le (Nat.succ (m d12)) (m d8)) ∧ (I d12))))))) ∧ (((!(std.seq (kP xs (Int.toNat (d8.i))) k)) = false) → ((((-9223372036854775808 : Int) ≤ ((d8.i) + (1 : Int))) ∧ (((d8.i) + (1 : Int)) ≤ (9223372036854775807 : Int))) ∧ (∃ (d12 : DelL), (([(Filler.val (Value.string k)), (Filler.dl (d12.r)), (Filler.dl xs), (Filler.val (Value.int IntKind.i64 (d12.n))), (Filler.val (Value.int IntKind.i64 (d12.i)))] = [(Filler.val (Value.string k)), (Filler.dl (d8.r)), (Filler.dl xs), (Filler.val (Value.int IntKind.i64 (d8.n))), (Filler.val (Value.int IntKind.i64 ((d8.i) + (1 : Int))))]) ∧ ((Nat.le (Nat.succ (m d12)) (m d8)) ∧ (I d12))))))))) ∧ (((decide ((d8.i) < (d8.n))) = false) → ([(dsl zP (d8.r))] = [(dsl zP (g.rdel xs k))])))))))) := by kernel_rfl
set_option maxRecDepth 100000 in
theorem rset_vc (g : KvF) (xs : List Value) (k v : ByteArray) : runP std (conL [(63, pcon (rfirstP std g))]) 40 noL (rsetP std g) 47 Try.f47 (xs, (k, v, ()), ()) =
  (((List.length xs) ≤ 1000000) ∧ ((True ∧ (((0 : Int) ≤ (g.rfirst xs k)) ∧ ((g.rfirst xs k) ≤ ((List.length xs) : Int)))) ∧ ((((decide ((g.rfirst xs k) < ((List.length xs) : Int))) = true) → ((((0 : Int) ≤ (g.rfirst xs k)) ∧ ((g.rfirst xs k) < ((List.length xs) : Int))) ∧ ((((std.seq (kP xs (Int.toNat (g.rfirst xs k))) k) = true) → ((((-9223372036854775808 : Int) ≤ ((g.rfirst xs k) + (1 : Int))) ∧ (((g.rfirst xs k) + (1 : Int)) ≤ (9223372036854775807 : Int))) ∧ ((True ∧ (((0 : Int) ≤ ((g.rfirst xs k) + (1 : Int))) ∧ (((g.rfirst xs k) + (1 : Int)) ≤ ((List.length xs) : Int)))) ∧ (((((0 : Int) ≤ (g.rfirst xs k)) ∧ ((g.rfirst xs k) ≤ ((List.length xs) : Int))) ∧ True) ∧ ((((List.length (List.take ((Int.toNat (g.rfirst xs k)) - 0) (List.drop 0 xs))) * 32) ≤ 140737488355328) ∧ ((((List.length ((List.take ((Int.toNat (g.rfirst xs k)) - 0) (List.drop 0 xs)) ++ [(Value.agg (Array.mk [(Value.string k), (Value.string v)]))])) * 32) ≤ 140737488355328) ∧ ((((List.length (((List.take ((Int.toNat (g.rfirst xs k)) - 0) (List.drop 0 xs)) ++ [(Value.agg (Array.mk [(Value.string k), (Value.string v)]))]) ++ (List.take ((List.length xs) - (Int.toNat ((g.rfirst xs k) + (1 : Int)))) (List.drop (Int.toNat ((g.rfirst xs k) + (1 : Int))) xs)))) * 32) ≤ 140737488355328) ∧ ((((Option.some (Value.agg (Array.mk [(Value.func (Go.Fn.yield 0) (Array.mk [(Value.string k)]) (Array.mk [])), (Value.func (Go.Fn.yield 0) (Array.mk [(Value.string v)]) (Array.mk []))]))) = (Option.some (Value.agg (Array.mk [(Value.func (Go.Fn.yield 0) (Array.mk [(Value.string k)]) (Array.mk [])), (Value.func (Go.Fn.yield 0) (Array.mk [(Value.string v)]) (Array.mk []))])))) ∧ ((Option.some (Value.agg (Array.mk [(Value.func (Go.Fn.yield 0) (Array.mk [(Value.string k)]) (Array.mk [])), (Value.func (Go.Fn.yield 0) (Array.mk [(Value.string v)]) (Array.mk []))]))) = (Option.some (Value.agg (Array.mk [(Value.func (Go.Fn.yield 0) (Array.mk [(Value.string k)]) (Array.mk [])), (Value.func (Go.Fn.yield 0) (Array.mk [(Value.string v)]) (Array.mk []))]))))) ∧ ([(dsl zP (((List.take ((Int.toNat (g.rfirst xs k)) - 0) (List.drop 0 xs)) ++ [(Value.agg (Array.mk [(Value.string k), (Value.string v)]))]) ++ (List.take ((List.length xs) - (Int.toNat ((g.rfirst xs k) + (1 : Int)))) (List.drop (Int.toNat ((g.rfirst xs k) + (1 : Int))) xs))))] = [(dsl zP (g.rset xs k v))]))))))))) ∧ (((std.seq (kP xs (Int.toNat (g.rfirst xs k))) k) = false) → (((((0 : Int) ≤ (g.rfirst xs k)) ∧ ((g.rfirst xs k) ≤ ((List.length xs) : Int))) ∧ True) ∧ ((((List.length (List.take ((Int.toNat (g.rfirst xs k)) - 0) (List.drop 0 xs))) * 32) ≤ 140737488355328) ∧ ((((List.length ((List.take ((Int.toNat (g.rfirst xs k)) - 0) (List.drop 0 xs)) ++ [(Value.agg (Array.mk [(Value.string k), (Value.string v)]))])) * 32) ≤ 140737488355328) ∧ ((((List.length (((List.take ((Int.toNat (g.rfirst xs k)) - 0) (List.drop 0 xs)) ++ [(Value.agg (Array.mk [(Value.string k), (Value.string v)]))]) ++ (List.take ((List.length xs) - (Int.toNat (g.rfirst xs k))) (List.drop (Int.toNat (g.rfirst xs k)) xs)))) * 32) ≤ 140737488355328) ∧ ((((Option.some (Value.agg (Array.mk [(Value.func (Go.Fn.yield 0) (Array.mk [(Value.string k)]) (Array.mk [])), (Value.func (Go.Fn.yield 0) (Array.mk [(Value.string v)]) (Array.mk []))]))) = (Option.some (Value.agg (Array.mk [(Value.func (Go.Fn.yield 0) (Array.mk [(Value.string k)]) (Array.mk [])), (Value.func (Go.Fn.yield 0) (Array.mk [(Value.string v)]) (Array.mk []))])))) ∧ ((Option.some (Value.agg (Array.mk [(Value.func (Go.Fn.yield 0) (Array.mk [(Value.string k)]) (Array.mk [])), (Value.func (Go.Fn.yield 0) (Array.mk [(Value.string v)]) (Array.mk []))]))) = (Option.some (Value.agg (Array.mk [(Value.func (Go.Fn.yield 0) (Array.mk [(Value.string k)]) (Array.mk [])), (Value.func (Go.Fn.yield 0) (Array.mk [(Value.string v)]) (Array.mk []))]))))) ∧ ([(dsl zP (((List.take ((Int.toNat (g.rfirst xs k)) - 0) (List.drop 0 xs)) ++ [(Value.agg (Array.mk [(Value.string k), (Value.string v)]))]) ++ (List.take ((List.length xs) - (Int.toNat (g.rfirst xs k))) (List.drop (Int.toNat (g.rfirst xs k)) xs))))] = [(dsl zP (g.rset xs k v))])))))))))) ∧ (((decide ((g.rfirst xs k) < ((List.length xs) : Int))) = false) → (((((0 : Int) ≤ (g.rfirst xs k)) ∧ ((g.rfirst xs k) ≤ ((List.length xs) : Int))) ∧ True) ∧ ((((List.length (List.take ((Int.toNat (g.rfirst xs k)) - 0) (List.drop 0 xs))) * 32) ≤ 140737488355328) ∧ ((((List.length ((List.take ((Int.toNat (g.rfirst xs k)) - 0) (List.drop 0 xs)) ++ [(Value.agg (Array.mk [(Value.string k), (Value.string v)]))])) * 32) ≤ 140737488355328) ∧ ((((List.length (((List.take ((Int.toNat (g.rfirst xs k)) - 0) (List.drop 0 xs)) ++ [(Value.agg (Array.mk [(Value.string k), (Value.string v)]))]) ++ (List.take ((List.length xs) - (Int.toNat (g.rfirst xs k))) (List.drop (Int.toNat (g.rfirst xs k)) xs)))) * 32) ≤ 140737488355328) ∧ ((((Option.some (Value.agg (Array.mk [(Value.func (Go.Fn.yield 0) (Array.mk [(Value.string k)]) (Array.mk [])), (Value.func (Go.Fn.yield 0) (Array.mk [(Value.string v)]) (Array.mk []))]))) = (Option.some (Value.agg (Array.mk [(Value.func (Go.Fn.yield 0) (Array.mk [(Value.string k)]) (Array.mk [])), (Value.func (Go.Fn.yield 0) (Array.mk [(Value.string v)]) (Array.mk []))])))) ∧ ((Option.some (Value.agg (Array.mk [(Value.func (Go.Fn.yield 0) (Array.mk [(Value.string k)]) (Array.mk [])), (Value.func (Go.Fn.yield 0) (Array.mk [(Value.string v)]) (Array.mk []))]))) = (Option.some (Value.agg (Array.mk [(Value.func (Go.Fn.yield 0) (Array.mk [(Value.string k)]) (Array.mk [])), (Value.func (Go.Fn.yield 0) (Array.mk [(Value.string v)]) (Array.mk []))]))))) ∧ ([(dsl zP (((List.take ((Int.toNat (g.rfirst xs k)) - 0) (List.drop 0 xs)) ++ [(Value.agg (Array.mk [(Value.string k), (Value.string v)]))]) ++ (List.take ((List.length xs) - (Int.toNat (g.rfirst xs k))) (List.drop (Int.toNat (g.rfirst xs k)) xs))))] = [(dsl zP (g.rset xs k v))])))))))))) := by kernel_rfl
end Go.Proofs.Ytmhfnbbamoadgaa
end
section
namespace Go.Proofs.Ytmhfnbbamoadgaa
open Go.Abs Go
set_option maxRecDepth 100000 in
theorem clone_vc (xs : List Value) : runP std noCon 40 noL (cloneP std) 34 Try.f34 (xs, ()) =
  ((0 < (List.length xs)) ∧ ((((List.length xs) * 32) ≤ 140737488355328) ∧ (xs = xs))) := by kernel_rfl
set_option maxRecDepth 100000 in
theorem one_vc (g : KvF) (n : Int) (I : OneL → Prop) (m : OneL → Nat) : runP std noCon 40 (oneLs I m) (oneP std g) 57 Try.f57 (n, ()) =
  ((((decide (n < (0 : Int))) = true) → ([(dsl (.int .u8 0) [])] = [(dsl (.int .u8 0) (g.one n))])) ∧ (((decide (n < (0 : Int))) = false) → ((((decide ((1099511627775 : Int) < n)) = true) → ([(dsl (.int .u8 0) [])] = [(dsl (.int .u8 0) (g.one n))])) ∧ (((decide ((1099511627775 : Int) < n)) = false) → (∃ (d8 : OneL), (([(Filler.val (Value.int IntKind.i64 (d8.n))), (Filler.dl (d8.r))] = [(Filler.val (Value.int IntKind.i64 n)), (Filler.dl [])]) ∧ ((I d8) ∧ (∀ (d9 : OneL), ((I d9) → ((((decide ((127 : Int) < (d9.n))) = true) → ((((List.length ((d9.r) ++ [(Value.int IntKind.u8 (std.wrap IntKind.u8 (std.bor IntKind.i64 (std.band IntKind.i64 (d9.n) (127 : Int)) (128 : Int))))])) * 1) ≤ 140737488355328) ∧ (((0 : Int) ≤ (7 : Int)) ∧ (∃ (d12 : OneL), (([(Filler.val (Value.int IntKind.i64 (d12.n))), (Filler.dl (d12.r))] = [(Filler.val (Value.int IntKind.i64 (std.shr IntKind.i64 (d9.n) (7 : Int)))), (Filler.dl ((d9.r) ++ [(Value.int IntKind.u8 (std.wrap IntKind.u8 (std.bor IntKind.i64 (std.band IntKind.i64 (d9.n) (127 : Int)) (128 : Int))))]))]) ∧ ((Nat.le (Nat.succ (m d12)) (m d9)) ∧ (I d12))))))) ∧ (((decide ((127 : Int) < (d9.n))) = false) → ((((List.length ((d9.r) ++ [(Value.int IntKind.u8 (std.wrap IntKind.u8 (d9.n)))])) * 1) ≤ 140737488355328) ∧ ([(dsl (.int .u8 0) ((d9.r) ++ [(Value.int IntKind.u8 (std.wrap IntKind.u8 (d9.n)))]))] = [(dsl (.int .u8 0) (g.one n))]))))))))))))) := by kernel_rfl
set_option maxRecDepth 100000 in
theorem key_vc (g : KvF) (n : Int) : runP std (withinCon std) 40 noL (keyP std g) 39 Try.f39 (n, ()) =
  ((((-9223372036854775808 : Int) ≤ n) ∧ (n ≤ (9223372036854775807 : Int))) ∧ (∀ (r4 : Int), ((((0 : Int) ≤ r4) ∧ (r4 ≤ (11 : Int))) → ((r4 = ((0 : Int) + (n % (12 : Int)))) → ((((0 : Int) ≤ r4) ∧ (r4 < ((List.length [(Value.string (ByteArray.mk (Array.mk [(97 : UInt8)]))), (Value.string (ByteArray.mk (Array.mk [(97 : UInt8), (98 : UInt8)]))), (Value.string (ByteArray.mk (Array.mk [(97 : UInt8), (98 : UInt8), (99 : UInt8)]))), (Value.string (ByteArray.mk (Array.mk [(98 : UInt8)]))), (Value.string (ByteArray.mk (Array.mk [(98 : UInt8), (97 : UInt8)]))), (Value.string (ByteArray.mk (Array.mk [(115 : UInt8), (47 : UInt8), (97 : UInt8)]))), (Value.string (ByteArray.mk (Array.mk [(115 : UInt8), (47 : UInt8), (98 : UInt8)]))), (Value.string (ByteArray.mk (Array.mk [(115 : UInt8), (47 : UInt8), (99 : UInt8)]))), (Value.string (ByteArray.mk (Array.mk [(116 : UInt8)]))), (Value.string (ByteArray.mk (Array.mk [(117 : UInt8)]))), (Value.string (ByteArray.mk (Array.mk [(122 : UInt8)]))), (Value.string (ByteArray.mk (Array.mk [(122 : UInt8), (122 : UInt8)])))]) : Int))) ∧ ([(Value.string (eS [(Value.string (ByteArray.mk (Array.mk [(97 : UInt8)]))), (Value.string (ByteArray.mk (Array.mk [(97 : UInt8), (98 : UInt8)]))), (Value.string (ByteArray.mk (Array.mk [(97 : UInt8), (98 : UInt8), (99 : UInt8)]))), (Value.string (ByteArray.mk (Array.mk [(98 : UInt8)]))), (Value.string (ByteArray.mk (Array.mk [(98 : UInt8), (97 : UInt8)]))), (Value.string (ByteArray.mk (Array.mk [(115 : UInt8), (47 : UInt8), (97 : UInt8)]))), (Value.string (ByteArray.mk (Array.mk [(115 : UInt8), (47 : UInt8), (98 : UInt8)]))), (Value.string (ByteArray.mk (Array.mk [(115 : UInt8), (47 : UInt8), (99 : UInt8)]))), (Value.string (ByteArray.mk (Array.mk [(116 : UInt8)]))), (Value.string (ByteArray.mk (Array.mk [(117 : UInt8)]))), (Value.string (ByteArray.mk (Array.mk [(122 : UInt8)]))), (Value.string (ByteArray.mk (Array.mk [(122 : UInt8), (122 : UInt8)])))] (Int.toNat r4)))] = [(Value.string (g.key n))])))))) := by kernel_rfl
set_option maxRecDepth 100000 in
theorem txt_vc (g : KvF) (n : Int) : runP std (withinCon std) 40 noL (txtP std g) 38 Try.f38 (n, ()) =
  ((((-9223372036854775808 : Int) ≤ n) ∧ (n ≤ (9223372036854775807 : Int))) ∧ (∀ (r4 : Int), ((((0 : Int) ≤ r4) ∧ (r4 ≤ (4 : Int))) → ((r4 = ((0 : Int) + (n % (5 : Int)))) → ((((0 : Int) ≤ r4) ∧ (r4 < ((List.length [(Value.string (ByteArray.mk (Array.mk []))), (Value.string (ByteArray.mk (Array.mk [(49 : UInt8)]))), (Value.string (ByteArray.mk (Array.mk [(120 : UInt8)]))), (Value.string (ByteArray.mk (Array.mk [(118 : UInt8), (97 : UInt8), (108 : UInt8), (117 : UInt8), (101 : UInt8)]))), (Value.string (ByteArray.mk (Array.mk [(49 : UInt8), (50 : UInt8), (51 : UInt8), (52 : UInt8), (53 : UInt8), (54 : UInt8), (55 : UInt8), (56 : UInt8)])))]) : Int))) ∧ ([(Value.string (eS [(Value.string (ByteArray.mk (Array.mk []))), (Value.string (ByteArray.mk (Array.mk [(49 : UInt8)]))), (Value.string (ByteArray.mk (Array.mk [(120 : UInt8)]))), (Value.string (ByteArray.mk (Array.mk [(118 : UInt8), (97 : UInt8), (108 : UInt8), (117 : UInt8), (101 : UInt8)]))), (Value.string (ByteArray.mk (Array.mk [(49 : UInt8), (50 : UInt8), (51 : UInt8), (52 : UInt8), (53 : UInt8), (54 : UInt8), (55 : UInt8), (56 : UInt8)])))] (Int.toNat r4)))] = [(Value.string (g.txt n))])))))) := by kernel_rfl
set_option maxRecDepth 100000 in
theorem rng_vc (g : KvF) (xs : List Value) (a b : ByteArray) : runP std (rngCon std g) 40 noL (rngP std g) 27 Try.f27 (xs, a, b, ()) =
  (((List.length xs) ≤ 1000000) ∧ ((((g.fd xs a) = true) → (((List.length xs) ≤ 1000000) ∧ ((((g.fd xs b) = true) → (((((0 : Int) ≤ (std.imax (g.bs xs a) (g.bs xs b))) ∧ ((std.imax (g.bs xs a) (g.bs xs b)) ≤ ((List.length xs) : Int))) ∧ (((0 : Int) ≤ (g.bs xs a)) ∧ ((g.bs xs a) ≤ ((Int.toNat (std.imax (g.bs xs a) (g.bs xs b))) : Int)))) ∧ (((List.length (List.take ((Int.toNat (std.imax (g.bs xs a) (g.bs xs b))) - (Int.toNat (g.bs xs a))) (List.drop (Int.toNat (g.bs xs a)) xs))) ≤ 1000000) ∧ ([(dsl zP (List.take ((Int.toNat (std.imax (g.bs xs a) (g.bs xs b))) - (Int.toNat (g.bs xs a))) (List.drop (Int.toNat (g.bs xs a)) xs)))] = [(dsl zP (g.rng xs a b))])))) ∧ (((g.fd xs b) = false) → (((((0 : Int) ≤ (std.imax (g.bs xs a) (g.bs xs b))) ∧ ((std.imax (g.bs xs a) (g.bs xs b)) ≤ ((List.length xs) : Int))) ∧ (((0 : Int) ≤ (g.bs xs a)) ∧ ((g.bs xs a) ≤ ((Int.toNat (std.imax (g.bs xs a) (g.bs xs b))) : Int)))) ∧ (((List.length (List.take ((Int.toNat (std.imax (g.bs xs a) (g.bs xs b))) - (Int.toNat (g.bs xs a))) (List.drop (Int.toNat (g.bs xs a)) xs))) ≤ 1000000) ∧ ([(dsl zP (List.take ((Int.toNat (std.imax (g.bs xs a) (g.bs xs b))) - (Int.toNat (g.bs xs a))) (List.drop (Int.toNat (g.bs xs a)) xs)))] = [(dsl zP (g.rng xs a b))]))))))) ∧ (((g.fd xs a) = false) → (((List.length xs) ≤ 1000000) ∧ ((((g.fd xs b) = true) → (((((0 : Int) ≤ (std.imax (g.bs xs a) (g.bs xs b))) ∧ ((std.imax (g.bs xs a) (g.bs xs b)) ≤ ((List.length xs) : Int))) ∧ (((0 : Int) ≤ (g.bs xs a)) ∧ ((g.bs xs a) ≤ ((Int.toNat (std.imax (g.bs xs a) (g.bs xs b))) : Int)))) ∧ (((List.length (List.take ((Int.toNat (std.imax (g.bs xs a) (g.bs xs b))) - (Int.toNat (g.bs xs a))) (List.drop (Int.toNat (g.bs xs a)) xs))) ≤ 1000000) ∧ ([(dsl zP (List.take ((Int.toNat (std.imax (g.bs xs a) (g.bs xs b))) - (Int.toNat (g.bs xs a))) (List.drop (Int.toNat (g.bs xs a)) xs)))] = [(dsl zP (g.rng xs a b))])))) ∧ (((g.fd xs b) = false) → (((((0 : Int) ≤ (std.imax (g.bs xs a) (g.bs xs b))) ∧ ((std.imax (g.bs xs a) (g.bs xs b)) ≤ ((List.length xs) : Int))) ∧ (((0 : Int) ≤ (g.bs xs a)) ∧ ((g.bs xs a) ≤ ((Int.toNat (std.imax (g.bs xs a) (g.bs xs b))) : Int)))) ∧ (((List.length (List.take ((Int.toNat (std.imax (g.bs xs a) (g.bs xs b))) - (Int.toNat (g.bs xs a))) (List.drop (Int.toNat (g.bs xs a)) xs))) ≤ 1000000) ∧ ([(dsl zP (List.take ((Int.toNat (std.imax (g.bs xs a) (g.bs xs b))) - (Int.toNat (g.bs xs a))) (List.drop (Int.toNat (g.bs xs a)) xs)))] = [(dsl zP (g.rng xs a b))]))))))))) := by kernel_rfl
end Go.Proofs.Ytmhfnbbamoadgaa
end
section
namespace Go.Proofs.Ytmhfnbbamoadgaa
open Go.Shelf Go.Abs Go.RowKit Go Go.Lib
theorem dra_plain {fz : Nat → Nat → Option Value} {x v' : Value} (hp : plain1 x = true) (h : DRa fz x v') : v' = x := by
  rcases h with ⟨_, h⟩ | ⟨xs, ys, rfl, _, _⟩
  · exact dr_plain hp h
  · simp [plain1] at hp
/-- Grow of nil, from what its text does. -/
theorem grow_pf {fi : FuncId} {fn : Func} {c : Code} (hf : Try.prog.funcs[fi]? = some fn) (hb : fn.body = some c) {z : Value} {e : TypeId} {z0 : Value} (hsz : z0.cells.size = z.cells.size)
    (h0 : ∀ w, Calls Try.prog fi #[.slice none 0 0, .int .i64 (0 : Nat)] w fun en w' => en = .returned (.slice none 0 0) ∧ w' = w)
    (h1 : ∀ (n : Nat) w, 0 < n → n ≤ 4000000 → Calls Try.prog fi #[.slice none 0 0, .int .i64 n] w fun en w' => ∃ cp, en = .returned (.slice (some ⟨w.heap.size, 0, none⟩) 0 cp) ∧
      w' = w.drew.alloc (.cells (#[] ++ Builtin.zeroCells z0.cells n ++ Builtin.zeroCells z0.cells (cp - n)) e)) : PFOk Try.prog fi (growP std z) := by
  refine ⟨fun {zf base w} hbase hz0 {d} hpre {xs} hraw {args'} hl => ?_⟩
  obtain ⟨_, n, _⟩ := d
  obtain ⟨hn0, hn1⟩ := hpre
  have hn0 : 0 ≤ n := hn0
  have hn1 : n ≤ 4000000 := hn1
  obtain ⟨m, rfl⟩ : ∃ m : Nat, n = (m : Int) := ⟨n.toNat, by omega⟩
  have hx : xs = [.slice none 0 0, .int .i64 m] := by
    have e : rawVs deep0 (growP std z).zs ((growP std z).args ((), (m : Int), ())) = some [.slice none 0 0, .int .i64 m] := rfl
    rw [e] at hraw
    exact (Option.some.inj hraw).symm
  subst hx
  obtain ⟨a0, l0, e0, r0, hl⟩ := hl.inv_cons
  obtain ⟨a1, l1, rfl, r1, hl⟩ := hl.inv_cons
  have := hl.inv_nil; subst this
  rw [dra_plain rfl r0, dra_plain rfl r1] at e0
  have ha : args' = #[.slice none 0 0, .int .i64 m] := Array.toList_inj.1 e0
  subst ha
  have hn := Try.progOk.name hf
  have hfv : ∀ b, (freshV ((growP std z).res ((), (m : Int), ())) b) = some (osl z [] b) := fun b => by
    show (match asDeep (dsl z []) with | some (z, xs) => some (osl z xs b) | none => none) = _
    rw [asDeep_dsl]
  refine .inr ⟨by simp [callFunc, hf, hn, hb], ?_⟩
  by_cases hm : m = 0
  · subst hm
    refine (h0 w).mono ?_
    rintro en w' ⟨rfl, rfl⟩
    refine ⟨_, rfl, zf, none, .refl _ _, fun _ _ _ h => h, fun _ _ _ h => .inl h, hz0, fun {μ b} hz ht => ?_, fun _ b => by rw [hfv]; rfl, fun p h => by cases h⟩
    show VR μ (osl z [] b) _
    exact .zero (.osl .nil rfl (.inl rfl))
  · refine (h1 m w (by omega) (by omega)).mono ?_
    rintro en w' ⟨cp, rfl, rfl⟩
    have hgr := grow_drew_alloc w (.cells (#[] ++ Builtin.zeroCells z0.cells m ++ Builtin.zeroCells z0.cells (cp - m)) e)
    have hz9 : (#[] ++ Builtin.zeroCells z0.cells m ++ Builtin.zeroCells z0.cells (cp - m)).size = m * z.cells.size + (cp - m) * z.cells.size := by
      rw [Array.size_append, Array.size_append, size_zeroC, size_zeroC, hsz]; simp
    generalize hA : (#[] ++ Builtin.zeroCells z0.cells m ++ Builtin.zeroCells z0.cells (cp - m)) = arr at hz9 hgr
    refine ⟨_, rfl, zf, some ⟨w.heap.size, 0, arr.size⟩, ⟨hgr.os, hgr.tape, hgr.output, by rw [hgr.size]; omega, hgr.old⟩, fun _ _ _ h => h, fun _ _ _ h => .inl h, fun c i a h => ?_, fun {μ b} hz ht => ?_, fun _ b => by rw [hfv]; rfl, fun p h => ?_⟩
    · obtain ⟨arr', e', fr', h2, h3⟩ := hz0 c i a h
      exact ⟨arr', e', fr', (hgr.old c (Array.getElem?_eq_some_iff.1 h2).1).trans h2, h3⟩
    · show VR μ (osl z [] b) _
      refine .zero (.osl .nil rfl (.inr ⟨rfl, ⟨w.heap.size, 0, arr.size⟩, w.heap.size, 0, rfl, ht, rfl, by simp, ?_⟩))
      show 0 + cp * z.cells.size ≤ arr.size
      rw [hz9, ← Nat.add_mul, Nat.zero_add]
      exact Nat.mul_le_mul_right _ (by omega)
    · simp only [Option.some.injEq] at h; subst h
      refine ⟨rfl, Nat.le_refl _, fun c i a h hc => ?_, arr, e, _, hgr.new, rfl, fun i _ h => ?_⟩
      · obtain ⟨arr', e', fr', h2, _⟩ := hz0 c i a h
        have := (Array.getElem?_eq_some_iff.1 h2).1
        simp at hc; omega
      · simp at h
end Go.Proofs.Ytmhfnbbamoadgaa
end
section
namespace Go.Proofs.Ytmhfnbbamoadgaa
open Go.RowKit Go.Abs Go
def noB : ByteArray := ⟨#[]⟩
def prV (k v : ByteArray) : Value := .agg #[.string k, .string v]
def cmpB (a b : ByteArray) : Int := Lib.compareBytes a.data.toList b.data.toList
def ltB (a b : ByteArray) : Bool := Op.bytesLess a.data.toList b.data.toList
def eqB (a b : ByteArray) : Bool := a.data.toList == b.data.toList
def lenB (a : ByteArray) : Nat := a.data.toList.length
def bsL : Nat → (Nat → Bool) → Int → Int → Int
  | 0, _, i, _ => i
  | f + 1, p, i, j => if i < j then (if p ((i + j) / 2).toNat then bsL f p ((i + j) / 2 + 1) j else bsL f p i ((i + j) / 2)) else i
def bsF (xs : List Value) (k : ByteArray) : Int := bsL (xs.length + 1) (fun m => decide (cmpB (kP xs m) k < 0)) 0 xs.length
def fdF (xs : List Value) (k : ByteArray) : Bool := decide (bsF xs k < (xs.length : Int)) && cmpB (kP xs (bsF xs k).toNat) k == 0
def mayF (k v : ByteArray) : Bool := !eqB k noB && (decide ((lenB k : Int) ≤ 16) && decide ((lenB v : Int) ≤ 24))
def rmayF (k v : ByteArray) : Bool := decide (1 ≤ (lenB k : Int)) && (decide ((lenB k : Int) ≤ 16) && decide ((lenB v : Int) ≤ 24))
def rightAt (may : ByteArray → ByteArray → Bool) (xs : List Value) (i : Nat) : Bool := may (kP xs i) (vP xs i) && (i == 0 || ltB (kP xs (i - 1)) (kP xs i))
def rightF (may : ByteArray → ByteArray → Bool) (xs : List Value) : Bool := (List.range xs.length).all (rightAt may xs) && decide (xs.length ≤ 30)
def sameAt (xs ys : List Value) (i : Nat) : Bool := eqB (kP xs i) (kP ys i) && eqB (vP xs i) (vP ys i)
def sameF (xs ys : List Value) : Bool := xs.length == ys.length && (List.range xs.length).all (sameAt xs ys)
def samebF (xs ys : List Value) : Bool := xs.length == ys.length && (List.range xs.length).all fun i => eB xs i == eB ys i
/-- The first place at which something does not hold. -/
def firstN (p : Nat → Bool) : Nat → Nat → Nat
  | 0, i => i
  | n + 1, i => if p i then firstN p n (i + 1) else i
def rfirstF (xs : List Value) (k : ByteArray) : Int := (firstN (fun i => ltB (kP xs i) k) xs.length 0 : Nat)
def delL (xs : List Value) (k : ByteArray) : Nat → List Value
  | 0 => []
  | i + 1 => if eqB (kP xs i) k then delL xs k i else delL xs k i ++ [prV (kP xs i) (vP xs i)]
def rdelF (xs : List Value) (k : ByteArray) : List Value := delL xs k xs.length
def putF (xs : List Value) (i : Nat) (k v : ByteArray) (at' : Bool) : List Value := xs.take i ++ [prV k v] ++ xs.drop (if at' then i + 1 else i)
def rsetF (xs : List Value) (k v : ByteArray) : List Value := putF xs (rfirstF xs k).toNat k v (decide (rfirstF xs k < (xs.length : Int)) && eqB (kP xs (rfirstF xs k).toNat) k)
def getF (xs : List Value) (k : ByteArray) : ByteArray := if fdF xs k then vP xs (bsF xs k).toNat else noB
def setokF (xs : List Value) (k v : ByteArray) : Bool := mayF k v && (fdF xs k || decide ((xs.length : Int) < 30))
def setF (xs : List Value) (k v : ByteArray) : List Value := if setokF xs k v then putF xs (bsF xs k).toNat k v (fdF xs k) else xs
def dropF (xs : List Value) (k : ByteArray) : List Value := if fdF xs k then xs.take (bsF xs k).toNat ++ xs.drop ((bsF xs k).toNat + 1) else xs
def rngF (xs : List Value) (a b : ByteArray) : List Value := (xs.drop (bsF xs a).toNat).take ((max (bsF xs a) (bsF xs b)).toNat - (bsF xs a).toNat)
def strs (l : List (List UInt8)) : List Value := l.map fun s => .string ⟨s.toArray⟩
def keysV : List Value := strs [[97], [97, 98], [97, 98, 99], [98], [98, 97], [115, 47, 97], [115, 47, 98], [115, 47, 99], [116], [117], [122], [122, 122]]
def txtsV : List Value := strs [[], [49], [120], [118, 97, 108, 117, 101], [49, 50, 51, 52, 53, 54, 55, 56]]
def keyF (n : Int) : ByteArray := eS keysV (n % 12).toNat
def txtF (n : Int) : ByteArray := eS txtsV (n % 5).toNat
def catF (xss : List Value) : List Value := (List.range xss.length).flatMap (eL xss)
def oneL : Nat → Int → List Value
  | 0, _ => []
  | f + 1, n => if 127 < n then .int .u8 (std.wrap .u8 (std.bor .i64 (std.band .i64 n 127) 128)) :: oneL f (std.shr .i64 n 7) else [.int .u8 (std.wrap .u8 n)]
def oneF (n : Int) : List Value := oneL 7 n
def textF (xs : List Value) : List Value := (List.range xs.length).flatMap fun i => oneF (lenB (eS xs i) : Int) ++ std.svals (eS xs i)
def leafF (k v : ByteArray) : List Value := textF [.string k, .string v]
/-- affiantkeep.Pairs: the map behind so many numbers; the pairs of so many keys. -/
def esF (xs : List Value) : Nat → List (Value × Value)
  | 0 => []
  | i + 1 => mput zS (esF xs i) (.string (keyF (eI xs i))) (.string (txtF (Int.tdiv (eI xs i) 12)))
def outL (es : List (Value × Value)) : Nat → List Value
  | 0 => []
  | i + 1 => if mhas zS es (.string (eS keysV i)) then outL es i ++ [prV (eS keysV i) (dstr (mget zS zS es (.string (eS keysV i))))] else outL es i
def pairsF (xs : List Value) : List Value := outL (esF xs (min xs.length 12)) 12
noncomputable def kvF : KvF where
  cmp := cmpB
  bs := bsF
  fd := fdF
  may := mayF
  rmay := rmayF
  right := rightF mayF
  rright := rightF rmayF
  same := sameF
  sameb := samebF
  get := getF
  set := setF
  setok := setokF
  del := dropF
  rng := rngF
  rset := rsetF
  rdel := rdelF
  rfirst := rfirstF
  leaf := leafF
  key := keyF
  txt := txtF
  pairs := pairsF
  cat := catF
  one := oneF
  text := textF
  wi := fun n lo hi => lo + n % (hi - lo + 1)

theorem wrapu (n : Int) : std.wrap .u64 n = n % 18446744073709551616 := rfl
theorem shru1 (n : Int) : std.shr .u64 n 1 = n / 2 := by
  show n.fdiv 2 = n / 2
  exact Int.fdiv_eq_ediv_of_nonneg n (by omega)
theorem mid_of {i j : Int} (h0 : 0 ≤ i) (h1 : i ≤ j) (h2 : j ≤ 1000000) : std.wrap .i64 (std.shr .u64 (std.wrap .u64 (i + j)) 1) = (i + j) / 2 := by
  rw [wrapu, show (i + j) % 18446744073709551616 = i + j by omega, shru1]
  exact wrap_i64 (by omega)
theorem bsL_more (p : Nat → Bool) : ∀ (f : Nat) (i j : Int) (g : Nat), (j - i).toNat < f → (j - i).toNat < g → bsL f p i j = bsL g p i j
  | 0, i, j, g, h, _ => by omega
  | f + 1, i, j, 0, _, h => by omega
  | f + 1, i, j, g + 1, h1, h2 => by
    unfold bsL
    split
    · split
      · exact bsL_more p f _ _ g (by omega) (by omega)
      · exact bsL_more p f _ _ g (by omega) (by omega)
    · rfl
theorem bsL_range (p : Nat → Bool) : ∀ (f : Nat) (i j : Int), i ≤ j → i ≤ bsL f p i j ∧ bsL f p i j ≤ j
  | 0, i, j, h => ⟨Int.le_refl _, h⟩
  | f + 1, i, j, h => by
    unfold bsL
    split
    · split
      · have := bsL_range p f ((i + j) / 2 + 1) j (by omega); omega
      · have := bsL_range p f i ((i + j) / 2) (by omega); omega
    · omega
theorem bsF_range (xs : List Value) (k : ByteArray) : 0 ≤ bsF xs k ∧ bsF xs k ≤ (xs.length : Int) := bsL_range _ _ _ _ (by omega)
theorem fd_lt {xs : List Value} {k : ByteArray} (h : fdF xs k = true) : bsF xs k < (xs.length : Int) := by
  unfold fdF at h
  simp only [Bool.and_eq_true, decide_eq_true_eq] at h
  exact h.1
theorem bs_run (xs : List Value) (k : ByteArray) (hx : xs.length ≤ 1000000) : runP std (cmpCon kvF) 40 (bsLs xs k (fun d => d.n = xs.length ∧ 0 ≤ d.i ∧ d.i ≤ d.j ∧ d.j ≤ xs.length ∧ ∃ f, (d.j - d.i).toNat < f ∧ bsL f (fun m => decide (cmpB (kP xs m) k < 0)) d.i d.j = bsF xs k) fun d => (d.j - d.i).toNat) (bsP std kvF) 67 Try.f67 (xs, k, (), ()) := by
  rw [bs_vc]
  refine ⟨⟨xs.length, 0, xs.length⟩, rfl, ⟨rfl, by simp, by simp, by simp, _, ?_, rfl⟩, fun d ⟨hn, h0, h1, h2, f, hf, he⟩ => ⟨fun h => ?_, fun h => ?_⟩⟩
  · show ((xs.length : Int) - 0).toNat < xs.length + 1
    omega
  · have h := of_decide_eq_true h
    rw [mid_of h0 h1 (by omega)]
    obtain ⟨f, rfl⟩ : ∃ f', f = f' + 1 := ⟨f - 1, by omega⟩
    unfold bsL at he
    rw [if_pos h] at he
    refine ⟨by omega, by omega, by omega, fun e => ⟨by omega, ⟨d.n, (d.i + d.j) / 2 + 1, d.j⟩, rfl, ?_, hn, ?_, ?_, h2, f, ?_, ?_⟩, fun e => ⟨⟨d.n, d.i, (d.i + d.j) / 2⟩, rfl, ?_, hn, h0, ?_, ?_, f, ?_, ?_⟩⟩
    · show (d.j - ((d.i + d.j) / 2 + 1)).toNat + 1 ≤ (d.j - d.i).toNat; omega
    · show 0 ≤ (d.i + d.j) / 2 + 1; omega
    · show (d.i + d.j) / 2 + 1 ≤ d.j; omega
    · show (d.j - ((d.i + d.j) / 2 + 1)).toNat < f; omega
    · rw [if_pos (show decide (cmpB (kP xs ((d.i + d.j) / 2).toNat) k < 0) = true from e)] at he; exact he
    · show ((d.i + d.j) / 2 - d.i).toNat + 1 ≤ (d.j - d.i).toNat; omega
    · show d.i ≤ (d.i + d.j) / 2; omega
    · show (d.i + d.j) / 2 ≤ xs.length; omega
    · show ((d.i + d.j) / 2 - d.i).toNat < f; omega
    · have e : decide (cmpB (kP xs ((d.i + d.j) / 2).toNat) k < 0) = false := e
      rw [if_neg (fun h => by have h : decide (cmpB (kP xs ((d.i + d.j) / 2).toNat) k < 0) = true := h; rw [e] at h; cases h)] at he; exact he
  · have h : ¬ d.i < d.j := of_decide_eq_false h
    obtain ⟨f, rfl⟩ : ∃ f', f = f' + 1 := ⟨f - 1, by omega⟩
    unfold bsL at he
    rw [if_neg h] at he
    have hfd : fdF xs k = (decide (d.i < (xs.length : Int)) && cmpB (kP xs d.i.toNat) k == 0) := by unfold fdF; rw [← he]
    have key : ∀ b, fdF xs k = b → ([Value.int IntKind.i64 d.i, Value.bool b] = [Value.int IntKind.i64 (bsF xs k), Value.bool (fdF xs k)]) := fun b hb => by rw [hb, he]
    refine ⟨fun e => ⟨?_, fun c => key _ ?_, fun c => key _ ?_⟩, fun e => key _ ?_⟩
    · have e : d.i < d.n := of_decide_eq_true e
      omega
    · have e : d.i < d.n := of_decide_eq_true e
      rw [hfd, decide_eq_true (by omega), Bool.true_and]; exact c
    · have e : d.i < d.n := of_decide_eq_true e
      rw [hfd, decide_eq_true (by omega), Bool.true_and]; exact c
    · have e : ¬ d.i < d.n := of_decide_eq_false e
      rw [hfd, decide_eq_false (by omega), Bool.false_and]
theorem may_run (k v : ByteArray) : runP std noCon 40 noL (mayP kvF) 55 Try.f55 ((k, v, ()), ()) := by
  rw [may_vc]
  have key : ∀ b, mayF k v = b → ([Value.bool b] = [Value.bool (mayF k v)]) := fun b hb => by rw [hb]
  have hd : mayF k v = (!std.seq k ⟨#[]⟩ && (decide ((std.slen k : Int) ≤ 16) && decide ((std.slen v : Int) ≤ 24))) := rfl
  refine ⟨fun h1 => ⟨fun h2 => ⟨fun h3 => key _ ?_, fun h3 => key _ ?_⟩, fun h2 => key _ ?_⟩, fun h1 => key _ ?_⟩
  · rw [hd, h1, h2, h3]; rfl
  · rw [hd, h1, h2, h3]; rfl
  · rw [hd, h1, h2]; rfl
  · rw [hd, h1]; rfl
theorem rmay_run (k v : ByteArray) : runP std noCon 40 noL (rmayP kvF) 41 Try.f41 ((k, v, ()), ()) := by
  rw [rmay_vc]
  have key : ∀ b, rmayF k v = b → ([Value.bool b] = [Value.bool (rmayF k v)]) := fun b hb => by rw [hb]
  have hd : rmayF k v = (decide (1 ≤ (std.slen k : Int)) && (decide ((std.slen k : Int) ≤ 16) && decide ((std.slen v : Int) ≤ 24))) := rfl
  refine ⟨fun h1 => ⟨fun h2 => ⟨fun h3 => key _ ?_, fun h3 => key _ ?_⟩, fun h2 => key _ ?_⟩, fun h1 => key _ ?_⟩
  · rw [hd, h1, h2, h3]; rfl
  · rw [hd, h1, h2, h3]; rfl
  · rw [hd, h1, h2]; rfl
  · rw [hd, h1]; rfl
theorem all_not {p : Nat → Bool} {n i : Nat} (hi : i < n) (h : p i = false) : (List.range n).all p = false := by
  rw [List.all_eq_false]
  exact ⟨i, List.mem_range.2 hi, by rw [h]; exact Bool.false_ne_true⟩
theorem all_yes {p : Nat → Bool} {n : Nat} (h : ∀ i, i < n → p i = true) : (List.range n).all p = true := by
  rw [List.all_eq_true]
  exact fun i hi => h i (List.mem_range.1 hi)
/-- The invariant of a walk that looks whether all is right. -/
def rightI (may : ByteArray → ByteArray → Bool) (xs : List Value) (d : NIL) : Prop := d.n = xs.length ∧ ∃ i : Nat, d.i = i ∧ i ≤ xs.length ∧ ∀ j, j < i → rightAt may xs j = true
theorem right_of (may : ByteArray → ByteArray → Bool) (xs : List Value) (hx : xs.length ≤ 1000000) {d : NIL} (hI : rightI may xs d) (right : List Value → Bool) (hr : right xs = rightF may xs) :
   ((decide (d.i < d.n) = true → (0 ≤ d.i ∧ d.i < (xs.length : Int)) ∧ True ∧
      (may (kP xs d.i.toNat) (vP xs d.i.toNat) = true →
        (decide (0 < d.i) = true → (-9223372036854775808 ≤ d.i - 1 ∧ d.i - 1 ≤ 9223372036854775807) ∧ (0 ≤ d.i - 1 ∧ d.i - 1 < (xs.length : Int)) ∧
          ((!std.slt (kP xs (d.i - 1).toNat) (kP xs d.i.toNat)) = true → [Value.bool false] = [Value.bool (right xs)]) ∧
          ((!std.slt (kP xs (d.i - 1).toNat) (kP xs d.i.toNat)) = false → (-9223372036854775808 ≤ d.i + 1 ∧ d.i + 1 ≤ 9223372036854775807) ∧ ∃ d' : NIL, [Filler.dl xs, Filler.dl xs, Filler.val (Value.int IntKind.i64 d'.n), Filler.val (Value.int IntKind.i64 d'.i)] = [Filler.dl xs, Filler.dl xs, Filler.val (Value.int IntKind.i64 d.n), Filler.val (Value.int IntKind.i64 (d.i + 1))] ∧ Nat.le (Nat.succ (d'.n - d'.i).toNat) (d.n - d.i).toNat ∧ rightI may xs d')) ∧
        (decide (0 < d.i) = false → (-9223372036854775808 ≤ d.i + 1 ∧ d.i + 1 ≤ 9223372036854775807) ∧ ∃ d' : NIL, [Filler.dl xs, Filler.dl xs, Filler.val (Value.int IntKind.i64 d'.n), Filler.val (Value.int IntKind.i64 d'.i)] = [Filler.dl xs, Filler.dl xs, Filler.val (Value.int IntKind.i64 d.n), Filler.val (Value.int IntKind.i64 (d.i + 1))] ∧ Nat.le (Nat.succ (d'.n - d'.i).toNat) (d.n - d.i).toNat ∧ rightI may xs d')) ∧
      (may (kP xs d.i.toNat) (vP xs d.i.toNat) = false → [Value.bool false] = [Value.bool (right xs)])) ∧
    (decide (d.i < d.n) = false → (decide ((xs.length : Int) ≤ 30) = true → [Value.bool true] = [Value.bool (right xs)]) ∧ (decide ((xs.length : Int) ≤ 30) = false → [Value.bool false] = [Value.bool (right xs)]))) := by
  obtain ⟨hn, i, hi, hle, hall⟩ := hI
  have key : ∀ b, rightF may xs = b → ([Value.bool b] = [Value.bool (right xs)]) := fun b hb => by rw [hr, hb]
  have bad : i < xs.length → rightAt may xs i = false → rightF may xs = false := fun h1 h2 => by unfold rightF; rw [all_not h1 h2]; rfl
  have next : i < xs.length → rightAt may xs i = true → ∃ d' : NIL, [Filler.dl xs, Filler.dl xs, Filler.val (Value.int IntKind.i64 d'.n), Filler.val (Value.int IntKind.i64 d'.i)] = [Filler.dl xs, Filler.dl xs, Filler.val (Value.int IntKind.i64 d.n), Filler.val (Value.int IntKind.i64 (d.i + 1))] ∧ Nat.le (Nat.succ (d'.n - d'.i).toNat) (d.n - d.i).toNat ∧ rightI may xs d' := fun h1 h2 => by
    refine ⟨⟨d.n, d.i + 1⟩, rfl, ?_, hn, i + 1, by show d.i + 1 = _; omega, h1, fun j hj => ?_⟩
    · show (d.n - (d.i + 1)).toNat + 1 ≤ (d.n - d.i).toNat
      omega
    · by_cases e : j = i
      · subst e; exact h2
      · exact hall j (by omega)
  rw [hi, Int.toNat_natCast]
  refine ⟨fun h => ?_, fun h => ⟨fun e => key _ ?_, fun e => key _ ?_⟩⟩
  · have h := of_decide_eq_true h
    have hlt : i < xs.length := by omega
    refine ⟨by omega, trivial, fun h1 => ⟨fun h2 => ?_, fun h2 => ?_⟩, fun h1 => key _ (bad hlt (by unfold rightAt; rw [h1]; rfl))⟩
    · have h2 := of_decide_eq_true h2
      rw [show ((i : Int) - 1).toNat = i - 1 by omega]
      refine ⟨by omega, by omega, fun h3 => key _ (bad hlt ?_), fun h3 => ⟨by omega, ?_⟩⟩
      · have h3 : (!ltB (kP xs (i - 1)) (kP xs i)) = true := h3
        have h3 : ltB (kP xs (i - 1)) (kP xs i) = false := by simpa using h3
        unfold rightAt
        rw [h1, h3, show (i == 0) = false by simp; omega]; rfl
      · have h3 : (!ltB (kP xs (i - 1)) (kP xs i)) = false := h3
        have h3 : ltB (kP xs (i - 1)) (kP xs i) = true := by simpa using h3
        rw [← hi]
        refine next hlt ?_
        unfold rightAt
        rw [h1, h3]; simp
    · have h2 := of_decide_eq_false h2
      refine ⟨by omega, ?_⟩
      rw [← hi]
      refine next hlt ?_
      unfold rightAt
      rw [h1, show (i == 0) = true by simp; omega]; rfl
  · have h := of_decide_eq_false h
    unfold rightF
    rw [all_yes fun j hj => hall j (by omega)]
    have e := of_decide_eq_true e
    rw [decide_eq_true (by omega)]; rfl
  · unfold rightF
    have e := of_decide_eq_false e
    rw [decide_eq_false (by omega), Bool.and_false]
theorem right_run (xs : List Value) (hx : xs.length ≤ 1000000) : runP std (noCon.draw [(55, dcon (mayP kvF))]) 40 (walkLs 34 0 5 6 7 xs (rightI mayF xs) fun d => (d.n - d.i).toNat) (rightP std kvF) 31 Try.f31 (xs, ()) := by
  rw [right_vc]
  exact ⟨⟨xs.length, 0⟩, rfl, ⟨rfl, 0, rfl, Nat.zero_le _, fun j hj => by omega⟩, fun d hI => right_of mayF xs hx hI _ rfl⟩
theorem rright_run (xs : List Value) (hx : xs.length ≤ 1000000) : runP std (noCon.draw [(41, dcon (rmayP kvF))]) 40 (walkLs 34 0 5 6 7 xs (rightI rmayF xs) fun d => (d.n - d.i).toNat) (rrightP std kvF) 19 Try.f19 (xs, ()) := by
  rw [rright_vc]
  exact ⟨⟨xs.length, 0⟩, rfl, ⟨rfl, 0, rfl, Nat.zero_le _, fun j hj => by omega⟩, fun d hI => right_of rmayF xs hx hI _ rfl⟩
theorem eqB_iff {a b : ByteArray} : eqB a b = true ↔ a = b := by
  unfold eqB
  rw [beq_iff_eq]
  refine ⟨fun h => ?_, fun h => by rw [h]⟩
  cases a; cases b
  simp only [ByteArray.mk.injEq]
  exact Array.toList_inj.1 h
def sameI (p : Nat → Bool) (n : Nat) (d : IL) : Prop := ∃ i : Nat, d.i = i ∧ i ≤ n ∧ ∀ j, j < i → p j = true
theorem same_run (xs ys : List Value) (hx : xs.length ≤ 1000000) : runP std noCon 40 (sameLs zP xs ys (fun d => xs.length = ys.length ∧ sameI (sameAt xs ys) xs.length d) fun d => ((xs.length : Int) - d.i).toNat) (sameP std kvF) 22 Try.f22 (xs, ys, ()) := by
  rw [same_vc]
  have key : ∀ b, sameF xs ys = b → ([Value.bool b] = [Value.bool (sameF xs ys)]) := fun b hb => by rw [hb]
  refine ⟨fun h => key _ ?_, fun h => ?_⟩
  · unfold sameF
    have : (xs.length == ys.length) = false := by simp at h; simp; omega
    rw [this]; rfl
  · have hl : xs.length = ys.length := by have := h; simp at this; omega
    refine ⟨⟨0⟩, rfl, ⟨hl, 0, rfl, Nat.zero_le _, fun j hj => by omega⟩, fun d ⟨_, i, hi, hle, hall⟩ => ⟨fun h => ?_, fun h => key _ ?_⟩⟩
    · have h := of_decide_eq_true h
      rw [hi, Int.toNat_natCast]
      refine ⟨by omega, by omega, fun e => key _ ?_, fun e => ⟨by omega, ⟨(i : Int) + 1⟩, rfl, ?_, hl, i + 1, rfl, by omega, fun j hj => ?_⟩⟩
      · have e : (!sameAt xs ys i) = true := e
        have e : sameAt xs ys i = false := by simpa using e
        unfold sameF
        rw [all_not (i := i) (by omega) e, Bool.and_false]
      · show ((xs.length : Int) - ((i : Int) + 1)).toNat + 1 ≤ ((xs.length : Int) - (i : Int)).toNat
        omega
      · by_cases c : j = i
        · subst c
          have e : (!sameAt xs ys j) = false := e
          simpa using e
        · exact hall j (by omega)
    · have h := of_decide_eq_false h
      unfold sameF
      rw [all_yes fun j hj => hall j (by omega), hl]; simp
theorem first_run (xs : List Value) (k : ByteArray) (hx : xs.length ≤ 1000000) : runP std (bsCon std kvF) 40 noL (firstP std kvF) 51 Try.f51 (xs, k, ()) := by
  rw [first_vc]
  exact ⟨hx, fun _ => rfl, fun _ => rfl⟩
theorem get_run (xs : List Value) (k : ByteArray) (hx : xs.length ≤ 1000000) : runP std (bsCon std kvF) 40 noL (getP std kvF) 29 Try.f29 (xs, k, ()) := by
  rw [get_vc]
  have hr := bsF_range xs k
  refine ⟨hx, fun e => ⟨⟨hr.1, fd_lt e⟩, ?_⟩, fun e => ?_⟩
  · show _ = [Value.string (getF xs k), Value.bool (fdF xs k)]
    have e : fdF xs k = true := e
    unfold getF
    rw [if_pos e, e]; rfl
  · show _ = [Value.string (getF xs k), Value.bool (fdF xs k)]
    have e : fdF xs k = false := e
    unfold getF
    rw [if_neg (by rw [e]; exact Bool.false_ne_true), e]; rfl
theorem firstN_ok (p : Nat → Bool) : ∀ (n i : Nat), i ≤ firstN p n i ∧ firstN p n i ≤ i + n ∧ (∀ j, i ≤ j → j < firstN p n i → p j = true) ∧ (firstN p n i < i + n → p (firstN p n i) = false)
  | 0, i => ⟨Nat.le_refl _, Nat.le_refl _, fun j h1 h2 => by simp [firstN] at h2; omega, fun h => by simp [firstN] at h⟩
  | n + 1, i => by
    unfold firstN
    split
    · rename_i h
      obtain ⟨h1, h2, h3, h4⟩ := firstN_ok p n (i + 1)
      refine ⟨by omega, by omega, fun j h5 h6 => ?_, fun h5 => h4 (by omega)⟩
      by_cases e : j = i
      · subst e; exact h
      · exact h3 j (by omega) h6
    · rename_i h
      exact ⟨Nat.le_refl _, by omega, fun j h1 h2 => by omega, fun _ => by simpa using h⟩
theorem firstN_eq {p : Nat → Bool} {n i : Nat} (hi : i ≤ n) (h1 : ∀ j, j < i → p j = true) (h2 : i < n → p i = false) : firstN p n 0 = i := by
  obtain ⟨_, h4, h5, h6⟩ := firstN_ok p n 0
  rcases Nat.lt_trichotomy (firstN p n 0) i with h | h | h
  · have := h6 (by omega)
    rw [h1 _ h] at this; cases this
  · exact h
  · have := h5 i (Nat.zero_le _) h
    rw [h2 (by omega)] at this; cases this
theorem rfirst_range (xs : List Value) (k : ByteArray) : 0 ≤ rfirstF xs k ∧ rfirstF xs k ≤ (xs.length : Int) := by
  have := (firstN_ok (fun i => ltB (kP xs i) k) xs.length 0).2.1
  unfold rfirstF
  omega
theorem rfirst_run (xs : List Value) (k : ByteArray) (hx : xs.length ≤ 1000000) : runP std noCon 40 (rfirstLs xs k (sameI (fun i => ltB (kP xs i) k) xs.length) fun d => ((xs.length : Int) - d.i).toNat) (rfirstP std kvF) 63 Try.f63 (xs, k, ()) := by
  rw [rfirst_vc]
  refine ⟨⟨0⟩, rfl, ⟨0, rfl, Nat.zero_le _, fun j hj => by omega⟩, fun d ⟨i, hi, hle, hall⟩ => ?_⟩
  have key : rfirstF xs k = i → ([Value.int IntKind.i64 d.i] = [Value.int IntKind.i64 (rfirstF xs k)]) := fun h => by rw [h, hi]
  refine ⟨fun h => ?_, fun h => key ?_⟩
  · have h := of_decide_eq_true h
    refine ⟨by omega, fun e => ⟨by omega, ⟨d.i + 1⟩, rfl, ?_, i + 1, by show d.i + 1 = _; omega, by omega, fun j hj => ?_⟩, fun e => key ?_⟩
    · show ((xs.length : Int) - (d.i + 1)).toNat + 1 ≤ ((xs.length : Int) - d.i).toNat
      omega
    · by_cases c : j = i
      · subst c; rw [hi, Int.toNat_natCast] at e; exact e
      · exact hall j (by omega)
    · rw [hi, Int.toNat_natCast] at e
      unfold rfirstF
      rw [firstN_eq hle hall fun _ => e]
  · have h := of_decide_eq_false h
    unfold rfirstF
    rw [firstN_eq hle hall fun h2 => by omega]
theorem delL_len (xs : List Value) (k : ByteArray) : ∀ i, (delL xs k i).length ≤ i
  | 0 => Nat.le_refl _
  | i + 1 => by
    have := delL_len xs k i
    unfold delL
    split
    · omega
    · simp; omega
theorem rdel_run (xs : List Value) (k : ByteArray) (hx : xs.length ≤ 1000000) : runP std noCon 40 (rdelLs xs k (fun d => d.n = xs.length ∧ ∃ i : Nat, d.i = i ∧ i ≤ xs.length ∧ d.r = delL xs k i) fun d => (d.n - d.i).toNat) (rdelP std kvF) 48 Try.f48 (xs, k, ()) := by
  rw [rdel_vc]
  refine ⟨⟨xs.length, 0, []⟩, rfl, ⟨rfl, 0, rfl, Nat.zero_le _, rfl⟩, fun d ⟨hn, i, hi, hle, hr⟩ => ⟨fun h => ?_, fun h => ?_⟩⟩
  · have h := of_decide_eq_true h
    have hlen := delL_len xs k i
    have hd : delL xs k (i + 1) = if eqB (kP xs i) k then delL xs k i else delL xs k i ++ [prV (kP xs i) (vP xs i)] := rfl
    rw [hi, Int.toNat_natCast]
    refine ⟨by omega, fun e => ⟨?_, by omega, ⟨d.n, i + 1, delL xs k (i + 1)⟩, ?_, ?_, hn, i + 1, rfl, by omega, rfl⟩, fun e => ⟨by omega, ⟨d.n, i + 1, delL xs k (i + 1)⟩, ?_, ?_, hn, i + 1, rfl, by omega, rfl⟩⟩
    · rw [List.length_append, hr]
      show ((delL xs k i).length + 1) * 32 ≤ _
      omega
    · have e : (!eqB (kP xs i) k) = true := e
      have e : eqB (kP xs i) k = false := by simpa using e
      show [_, Filler.dl (delL xs k (i + 1)), _, _, _] = _
      rw [hd, if_neg (by rw [e]; exact Bool.false_ne_true), hr]; rfl
    · show (d.n - ((i : Int) + 1)).toNat + 1 ≤ (d.n - (i : Int)).toNat
      omega
    · have e : (!eqB (kP xs i) k) = false := e
      have e : eqB (kP xs i) k = true := by simpa using e
      show [_, Filler.dl (delL xs k (i + 1)), _, _, _] = _
      rw [hd, if_pos e, hr]
    · show (d.n - ((i : Int) + 1)).toNat + 1 ≤ (d.n - (i : Int)).toNat
      omega
  · have h := of_decide_eq_false h
    rw [hr, show i = xs.length by omega]; rfl
theorem rset_run (xs : List Value) (k v : ByteArray) (hx : xs.length ≤ 1000000) : runP std (conL [(63, pcon (rfirstP std kvF))]) 40 noL (rsetP std kvF) 47 Try.f47 (xs, (k, v, ()), ()) := by
  rw [rset_vc]
  have hr := rfirst_range xs k
  have len1 : ∀ i : Nat, (List.take (i - 0) (List.drop 0 xs)).length * 32 ≤ 140737488355328 := fun i => by
    rw [List.length_take]
    have := Nat.min_le_right (i - 0) (List.drop 0 xs).length
    rw [List.drop_zero] at this ⊢; omega
  have len2 : ∀ i : Nat, (List.take (i - 0) (List.drop 0 xs) ++ [prV k v]).length * 32 ≤ 140737488355328 := fun i => by
    have := len1 i
    rw [List.length_append]
    have h3 : (List.take (i - 0) (List.drop 0 xs)).length ≤ 1000000 := by
      rw [List.length_take, List.drop_zero]; omega
    show (_ + 1) * 32 ≤ _
    omega
  have len3 : ∀ i j : Nat, ((List.take (i - 0) (List.drop 0 xs) ++ [prV k v]) ++ List.take (xs.length - j) (List.drop j xs)).length * 32 ≤ 140737488355328 := fun i j => by
    rw [List.length_append, List.length_append]
    have h3 : (List.take (i - 0) (List.drop 0 xs)).length ≤ 1000000 := by
      rw [List.length_take, List.drop_zero]; omega
    have h4 : (List.take (xs.length - j) (List.drop j xs)).length ≤ 1000000 := by
      rw [List.length_take, List.length_drop]; omega
    show (_ + 1 + _) * 32 ≤ _
    omega
  have tk : ∀ j : Nat, List.take (xs.length - j) (List.drop j xs) = xs.drop j := fun j => List.take_of_length_le (by rw [List.length_drop]; omega)
  have key : ∀ (b : Bool) (j : Nat), (decide (rfirstF xs k < (xs.length : Int)) && eqB (kP xs (rfirstF xs k).toNat) k) = b → j = (if b then (rfirstF xs k).toNat + 1 else (rfirstF xs k).toNat) → ([dsl zP ((List.take ((rfirstF xs k).toNat - 0) (List.drop 0 xs) ++ [prV k v]) ++ List.take (xs.length - j) (List.drop j xs))] = [dsl zP (rsetF xs k v)]) := by
    intro b j hb hj
    unfold rsetF putF
    rw [hb, tk, hj, Nat.sub_zero, List.drop_zero]
  refine ⟨hx, ⟨trivial, hr⟩, fun h => ?_, fun h => ?_⟩
  · have h1 := of_decide_eq_true h
    refine ⟨⟨hr.1, h1⟩, fun e => ⟨?_, ⟨trivial, ?_⟩, ⟨hr, trivial⟩, len1 _, len2 _, len3 _ _, ⟨rfl, rfl⟩, key true _ ?_ ?_⟩, fun e => ⟨⟨hr, trivial⟩, len1 _, len2 _, len3 _ _, ⟨rfl, rfl⟩, key false _ ?_ rfl⟩⟩
    · have : rfirstF xs k < (xs.length : Int) := h1
      show -9223372036854775808 ≤ rfirstF xs k + 1 ∧ rfirstF xs k + 1 ≤ 9223372036854775807
      omega
    · have : rfirstF xs k < (xs.length : Int) := h1
      show 0 ≤ rfirstF xs k + 1 ∧ rfirstF xs k + 1 ≤ (xs.length : Int)
      omega
    · rw [show decide (rfirstF xs k < (xs.length : Int)) = true from h]; exact e
    · show (rfirstF xs k + 1).toNat = _
      rw [if_pos rfl]; omega
    · rw [show decide (rfirstF xs k < (xs.length : Int)) = true from h]; exact e
  · refine ⟨⟨hr, trivial⟩, len1 _, len2 _, len3 _ _, ⟨rfl, rfl⟩, key false _ ?_ rfl⟩
    rw [show decide (rfirstF xs k < (xs.length : Int)) = false from h]; rfl
end Go.Proofs.Ytmhfnbbamoadgaa
end
section
namespace Go.Proofs.Ytmhfnbbamoadgaa
open Go.RowKit Go.Abs Go
/-- A statement, kept whole. -/
structure Holds (p : Prop) : Prop where
  out : p
theorem dels_dsl (z : Value) (l : List Value) : dels (dsl z l) = l := by simp [dels, dsl]
theorem catF3 (a b c : List Value) : catF [dsl zP a, dsl zP b, dsl zP c] = a ++ b ++ c := by
  show dels (dsl zP a) ++ (dels (dsl zP b) ++ (dels (dsl zP c) ++ [])) = _
  rw [dels_dsl, dels_dsl, dels_dsl, List.append_nil, List.append_assoc]
theorem catF2 (a b : List Value) : catF [dsl zP a, dsl zP b] = a ++ b := by
  show dels (dsl zP a) ++ (dels (dsl zP b) ++ []) = _
  rw [dels_dsl, dels_dsl, List.append_nil]
def sumL (xss : List Value) : Nat → Nat
  | 0 => 0
  | i + 1 => sumL xss i + (eL xss i).length
theorem sumL_le {xss : List Value} (h : ∀ i, i < xss.length → (eL xss i).length ≤ 1000000) : ∀ i, i ≤ xss.length → sumL xss i ≤ i * 1000000
  | 0, _ => by simp [sumL]
  | i + 1, hi => by
    have := sumL_le h i (by omega)
    have := h i (by omega)
    unfold sumL
    omega
def catL (xss : List Value) : Nat → List Value
  | 0 => []
  | i + 1 => catL xss i ++ eL xss i
theorem catL_len (xss : List Value) : ∀ i, (catL xss i).length = sumL xss i
  | 0 => rfl
  | i + 1 => by unfold catL sumL; rw [List.length_append, catL_len xss i]
theorem catL_eq (xss : List Value) : ∀ n, catL xss n = (List.range n).flatMap (eL xss)
  | 0 => rfl
  | n + 1 => by
    unfold catL
    rw [catL_eq xss n, List.range_succ, List.flatMap_append]
    simp
theorem clone_run (xs : List Value) (h0 : xs ≠ []) (hx : xs.length ≤ 1000000) : runP std noCon 40 noL (cloneP std) 34 Try.f34 (xs, ()) := by
  rw [clone_vc]
  exact ⟨List.length_pos_iff.2 h0, by omega, rfl⟩
theorem key_run (n : Int) (hn : -9223372036854775808 ≤ n ∧ n ≤ 9223372036854775807) : Holds (runP std (withinCon std) 40 noL (keyP std kvF) 39 Try.f39 (n, ())) := by
  constructor
  rw [key_vc]
  refine ⟨hn, fun r h1 h2 => ⟨⟨h1.1, ?_⟩, ?_⟩⟩
  · show r < 12
    omega
  · rw [show r = n % 12 by omega]; rfl
theorem txt_run (n : Int) (hn : -9223372036854775808 ≤ n ∧ n ≤ 9223372036854775807) : Holds (runP std (withinCon std) 40 noL (txtP std kvF) 38 Try.f38 (n, ())) := by
  constructor
  rw [txt_vc]
  refine ⟨hn, fun r h1 h2 => ⟨⟨h1.1, ?_⟩, ?_⟩⟩
  · show r < 5
    omega
  · rw [show r = n % 5 by omega]; rfl
theorem len3 {a b c : List Value} (ha : a.length ≤ 1000000) (hb : b.length ≤ 1000000) (hc : c.length ≤ 1000000) : ∀ i : Nat, i < 3 → (eL [dsl zP a, dsl zP b, dsl zP c] i).length ≤ 1000000
  | 0, _ => by show (dels (dsl zP a)).length ≤ _; rw [dels_dsl]; exact ha
  | 1, _ => by show (dels (dsl zP b)).length ≤ _; rw [dels_dsl]; exact hb
  | 2, _ => by show (dels (dsl zP c)).length ≤ _; rw [dels_dsl]; exact hc
  | _ + 3, h => by omega
theorem len2 {a b : List Value} (ha : a.length ≤ 1000000) (hb : b.length ≤ 1000000) : ∀ i : Nat, i < 2 → (eL [dsl zP a, dsl zP b] i).length ≤ 1000000
  | 0, _ => by show (dels (dsl zP a)).length ≤ _; rw [dels_dsl]; exact ha
  | 1, _ => by show (dels (dsl zP b)).length ≤ _; rw [dels_dsl]; exact hb
  | _ + 2, h => by omega
theorem take_len {xs : List Value} (hx : xs.length ≤ 1000000) (i j : Nat) : (List.take i (List.drop j xs)).length ≤ 1000000 := by
  rw [List.length_take, List.length_drop]; omega
theorem take_rest (xs : List Value) (j : Nat) : List.take (xs.length - j) (List.drop j xs) = xs.drop j := List.take_of_length_le (by rw [List.length_drop]; omega)
theorem imax_max (a b : Int) : std.imax a b = max a b := by
  show (if b > a then b else a) = max a b
  rw [Int.max_def]
  split <;> split <;> omega
theorem rng_run (xs : List Value) (a b : ByteArray) (hx : xs.length ≤ 1000000) : runP std (rngCon std kvF) 40 noL (rngP std kvF) 27 Try.f27 (xs, a, b, ()) := by
  rw [rng_vc]
  have h1 := bsF_range xs a
  have h2 := bsF_range xs b
  have key : (((0 ≤ std.imax (kvF.bs xs a) (kvF.bs xs b) ∧ std.imax (kvF.bs xs a) (kvF.bs xs b) ≤ (xs.length : Int)) ∧ 0 ≤ kvF.bs xs a ∧ kvF.bs xs a ≤ ((std.imax (kvF.bs xs a) (kvF.bs xs b)).toNat : Int)) ∧
      (List.take ((std.imax (kvF.bs xs a) (kvF.bs xs b)).toNat - (kvF.bs xs a).toNat) (List.drop (kvF.bs xs a).toNat xs)).length ≤ 1000000 ∧
      [dsl zP (List.take ((std.imax (kvF.bs xs a) (kvF.bs xs b)).toNat - (kvF.bs xs a).toNat) (List.drop (kvF.bs xs a).toNat xs))] = [dsl zP (kvF.rng xs a b)]) := by
    refine ⟨?_, take_len hx _ _, ?_⟩
    · rw [imax_max]
      show (0 ≤ max (bsF xs a) (bsF xs b) ∧ max (bsF xs a) (bsF xs b) ≤ (xs.length : Int)) ∧ 0 ≤ bsF xs a ∧ bsF xs a ≤ ((max (bsF xs a) (bsF xs b)).toNat : Int)
      omega
    · rw [imax_max]; rfl
  exact ⟨hx, fun _ => ⟨hx, fun _ => key, fun _ => key⟩, fun _ => ⟨hx, fun _ => key, fun _ => key⟩⟩
end Go.Proofs.Ytmhfnbbamoadgaa
end
section
namespace Go.Proofs.Ytmhfnbbamoadgaa
open Go.RowKit Go.Abs Go
theorem u8_lt (a b : UInt8) : a < b ↔ a.toNat < b.toNat := UInt8.lt_iff_toNat_lt
theorem u8_eq (a b : UInt8) : a = b ↔ a.toNat = b.toNat := UInt8.toNat_inj.symm
theorem less_iff : ∀ a b : List UInt8, Op.bytesLess a b = true ↔ Lib.compareBytes a b < 0
  | [], [] => by simp [Op.bytesLess, Lib.compareBytes]
  | [], _ :: _ => by simp [Op.bytesLess, Lib.compareBytes]
  | _ :: _, [] => by simp [Op.bytesLess, Lib.compareBytes]
  | a :: x, b :: y => by
    have ih := less_iff x y
    unfold Op.bytesLess Lib.compareBytes
    simp only [Bool.or_eq_true, decide_eq_true_eq, Bool.and_eq_true, beq_iff_eq]
    rw [ih]
    by_cases h1 : a < b
    · simp [h1]
    · by_cases h2 : b < a
      · have : a ≠ b := fun e => by subst e; rw [u8_lt] at h2; omega
        simp [h1, h2, this]
      · have : a = b := by rw [u8_lt] at h1 h2; rw [u8_eq]; omega
        subst this
        simp [h1]
theorem cmp_zero : ∀ a b : List UInt8, Lib.compareBytes a b = 0 ↔ a = b
  | [], [] => by simp [Lib.compareBytes]
  | [], _ :: _ => by simp [Lib.compareBytes]
  | _ :: _, [] => by simp [Lib.compareBytes]
  | a :: x, b :: y => by
    have ih := cmp_zero x y
    unfold Lib.compareBytes
    by_cases h1 : a < b
    · have : a ≠ b := fun e => by subst e; rw [u8_lt] at h1; omega
      simp [h1, this]
    · by_cases h2 : b < a
      · have : a ≠ b := fun e => by subst e; rw [u8_lt] at h2; omega
        simp [h1, h2, this]
      · have : a = b := by rw [u8_lt] at h1 h2; rw [u8_eq]; omega
        subst this
        simp [h1, ih]
theorem less_trans : ∀ {a b c : List UInt8}, Op.bytesLess a b = true → Op.bytesLess b c = true → Op.bytesLess a c = true
  | _, [], _, h, _ => by cases ‹List UInt8› <;> simp [Op.bytesLess] at h
  | _, _ :: _, [], _, h => by simp [Op.bytesLess] at h
  | [], _ :: _, _ :: _, _, _ => rfl
  | a :: x, b :: y, c :: z, h1, h2 => by
    unfold Op.bytesLess at h1 h2 ⊢
    simp only [Bool.or_eq_true, decide_eq_true_eq, Bool.and_eq_true, beq_iff_eq] at h1 h2 ⊢
    rcases h1 with h1 | ⟨rfl, h1⟩
    · rcases h2 with h2 | ⟨rfl, h2⟩
      · left; rw [u8_lt] at h1 h2 ⊢; omega
      · exact .inl h1
    · rcases h2 with h2 | ⟨rfl, h2⟩
      · exact .inl h2
      · exact .inr ⟨rfl, less_trans h1 h2⟩
theorem less_total : ∀ {a b : List UInt8}, Op.bytesLess a b = false → Op.bytesLess b a = true ∨ a = b
  | [], [], _ => .inr rfl
  | [], _ :: _, h => by simp [Op.bytesLess] at h
  | _ :: _, [], _ => .inl rfl
  | a :: x, b :: y, h => by
    unfold Op.bytesLess at h ⊢
    simp only [Bool.or_eq_false_iff, decide_eq_false_iff_not, Bool.and_eq_false_iff, beq_eq_false_iff_ne] at h
    obtain ⟨h1, h2⟩ := h
    simp only [Bool.or_eq_true, decide_eq_true_eq, Bool.and_eq_true, beq_iff_eq, List.cons.injEq]
    by_cases e : a = b
    · subst e
      rcases h2 with h2 | h2
      · exact absurd rfl h2
      · rcases less_total h2 with h3 | h3
        · exact .inl (.inr ⟨rfl, h3⟩)
        · exact .inr ⟨rfl, h3⟩
    · left; left
      rw [u8_eq] at e; rw [u8_lt] at h1 ⊢; omega
theorem less_irrefl : ∀ a : List UInt8, Op.bytesLess a a = false
  | [] => rfl
  | a :: x => by
    have ih := less_irrefl x
    unfold Op.bytesLess
    rw [ih]
    have : ¬ a < a := by rw [u8_lt]; omega
    simp
theorem lt_trans {a b c : ByteArray} (h1 : ltB a b = true) (h2 : ltB b c = true) : ltB a c = true := less_trans h1 h2
theorem lt_irrefl (a : ByteArray) : ltB a a = false := less_irrefl _
theorem lt_total {a b : ByteArray} (h : ltB a b = false) : ltB b a = true ∨ a = b := by
  rcases less_total h with h | h
  · exact .inl h
  · exact .inr (eqB_iff.1 (by unfold eqB; rw [h]; exact beq_self_eq_true _))
theorem lt_cmp (a b : ByteArray) : decide (cmpB a b < 0) = ltB a b := by
  have := less_iff a.data.toList b.data.toList
  unfold cmpB ltB
  cases h : Op.bytesLess a.data.toList b.data.toList with
  | true => exact decide_eq_true (this.1 h)
  | false => exact decide_eq_false fun h2 => by rw [this.2 h2] at h; cases h
theorem eq_cmp (a b : ByteArray) : (cmpB a b == 0) = eqB a b := by
  have := cmp_zero a.data.toList b.data.toList
  unfold cmpB eqB
  rw [Bool.eq_iff_iff, beq_iff_eq, beq_iff_eq]; exact this
theorem lt_ne {a b : ByteArray} (h : ltB a b = true) : eqB a b = false := by
  cases e : eqB a b with
  | false => rfl
  | true => rw [eqB_iff.1 e, lt_irrefl] at h; cases h
theorem gt_ne {a b : ByteArray} (h : ltB a b = true) : eqB b a = false := by
  cases e : eqB b a with
  | false => rfl
  | true => rw [eqB_iff.1 e, lt_irrefl] at h; cases h

def keyV (x : Value) : ByteArray := dstr (fld x 0)
def valV (x : Value) : ByteArray := dstr (fld x 1)
def Wf (l : List Value) : Prop := ∀ x ∈ l, x = prV (keyV x) (valV x)
def RightL (l : List Value) : Prop := rightF mayF l = true ∧ Wf l
def Ord (l : List Value) : Prop := l.Pairwise fun x y => ltB (keyV x) (keyV y) = true
theorem kP_get {l : List Value} {i : Nat} (h : i < l.length) : kP l i = keyV l[i] := by
  unfold kP keyV
  rw [List.getD_eq_getElem?_getD, List.getElem?_eq_getElem h]; rfl
theorem vP_get {l : List Value} {i : Nat} (h : i < l.length) : vP l i = valV l[i] := by
  unfold vP valV
  rw [List.getD_eq_getElem?_getD, List.getElem?_eq_getElem h]; rfl
theorem right_iff (l : List Value) : rightF mayF l = true ↔ (∀ x ∈ l, mayF (keyV x) (valV x) = true) ∧ Ord l ∧ l.length ≤ 30 := by
  unfold rightF
  rw [Bool.and_eq_true, List.all_eq_true, decide_eq_true_eq]
  constructor
  · rintro ⟨h1, h2⟩
    have at' : ∀ i, i < l.length → rightAt mayF l i = true := fun i hi => h1 i (List.mem_range.2 hi)
    refine ⟨fun x hx => ?_, ?_, h2⟩
    · obtain ⟨i, hi, rfl⟩ := List.getElem_of_mem hx
      have := at' i hi
      unfold rightAt at this
      rw [Bool.and_eq_true, kP_get hi, vP_get hi] at this
      exact this.1
    · unfold Ord
      rw [List.pairwise_iff_getElem]
      have step : ∀ d i, ∀ (hi : i < l.length) (hj : i + d + 1 < l.length), ltB (keyV l[i]) (keyV l[i + d + 1]) = true := by
        intro d
        induction d with
        | zero =>
          intro i hi hj
          have := at' (i + 1) hj
          unfold rightAt at this
          rw [Bool.and_eq_true, Bool.or_eq_true, beq_iff_eq, Nat.add_sub_cancel, kP_get hi, kP_get hj] at this
          rcases this.2 with h | h
          · omega
          · exact h
        | succ d ih =>
          intro i hi hj
          have h3 := ih i hi (by omega)
          have := at' (i + d + 2) (by omega)
          unfold rightAt at this
          rw [Bool.and_eq_true, Bool.or_eq_true, beq_iff_eq, show i + d + 2 - 1 = i + d + 1 by omega, kP_get (by omega : i + d + 1 < l.length), kP_get (by omega : i + d + 2 < l.length)] at this
          rcases this.2 with h | h
          · omega
          · exact lt_trans h3 h
      intro i j hi hj hij
      obtain ⟨d, rfl⟩ : ∃ d, j = i + d + 1 := ⟨j - i - 1, by omega⟩
      exact step d i hi hj
  · rintro ⟨h1, h2, h3⟩
    refine ⟨fun i hi => ?_, h3⟩
    have hi := List.mem_range.1 hi
    unfold rightAt
    rw [Bool.and_eq_true, kP_get hi, vP_get hi]
    refine ⟨h1 _ (List.getElem_mem hi), ?_⟩
    rw [Bool.or_eq_true, beq_iff_eq]
    by_cases e : i = 0
    · exact .inl e
    · right
      rw [kP_get (by omega : i - 1 < l.length)]
      exact (List.pairwise_iff_getElem.1 h2) (i - 1) i (by omega) hi (by omega)
/-- Binary search in what is ordered. -/
theorem bsL_spec {p : Nat → Bool} {n : Nat} (hp : ∀ i j, i < j → j < n → p j = true → p i = true) : ∀ (f : Nat) (i j : Int), (j - i).toNat < f → 0 ≤ i → i ≤ j → j ≤ n → (∀ m : Nat, (m : Int) < i → p m = true) → (∀ m : Nat, j ≤ m → m < n → p m = false) →
    (∀ m : Nat, (m : Int) < bsL f p i j → p m = true) ∧ (∀ m : Nat, bsL f p i j ≤ m → m < n → p m = false)
  | 0, i, j, h, _, _, _, _, _ => by omega
  | f + 1, i, j, h, h0, h1, h2, h3, h4 => by
    unfold bsL
    split
    · split
      · rename_i hlt hm
        refine bsL_spec hp f _ _ (by omega) (by omega) (by omega) h2 (fun m hm' => ?_) h4
        by_cases e : m = ((i + j) / 2).toNat
        · rw [e]; exact hm
        · exact hp m ((i + j) / 2).toNat (by omega) (by omega) hm
      · rename_i hlt hm
        refine bsL_spec hp f _ _ (by omega) h0 (by omega) (by omega) h3 fun m hm1 hm2 => ?_
        cases hpm : p m with
        | false => rfl
        | true =>
          exfalso
          by_cases e : m = ((i + j) / 2).toNat
          · rw [e] at hpm; exact hm hpm
          · exact hm (hp ((i + j) / 2).toNat m (by omega) hm2 hpm)
    · exact ⟨fun m hm => h3 m hm, fun m h5 h6 => h4 m (by omega) h6⟩
section
variable {l : List Value} (k : ByteArray)
theorem mono_of (ho : Ord l) : ∀ i j, i < j → j < l.length → ltB (kP l j) k = true → ltB (kP l i) k = true := by
  intro i j hij hj h
  rw [kP_get (by omega)]
  rw [kP_get hj] at h
  exact lt_trans ((List.pairwise_iff_getElem.1 ho) i j (by omega) hj hij) h
theorem bs_rfirst (ho : Ord l) : bsF l k = rfirstF l k := by
  have hp : (fun m => decide (cmpB (kP l m) k < 0)) = fun m => ltB (kP l m) k := by funext m; exact lt_cmp _ _
  have hr := bsF_range l k
  unfold bsF at hr ⊢
  unfold rfirstF
  rw [hp] at hr ⊢
  obtain ⟨h1, h2⟩ := bsL_spec (mono_of k ho) (l.length + 1) 0 l.length (by omega) (by omega) (by omega) (by omega) (fun m hm => by omega) (fun m h1 h2 => by omega)
  rw [firstN_eq (i := (bsL (l.length + 1) (fun m => ltB (kP l m) k) 0 l.length).toNat) (by omega) (fun j hj => h1 j (by omega)) (fun hlt => h2 _ (by omega) hlt)]
  omega
theorem fd_eq (ho : Ord l) : fdF l k = (decide (rfirstF l k < (l.length : Int)) && eqB (kP l (rfirstF l k).toNat) k) := by
  unfold fdF
  rw [bs_rfirst k ho, eq_cmp]
/-- Where a key stands. -/
theorem split_at (ho : Ord l) : ∃ r : Nat, rfirstF l k = r ∧ r ≤ l.length ∧ (∀ x ∈ l.take r, ltB (keyV x) k = true) ∧ ((decide (rfirstF l k < (l.length : Int)) && eqB (kP l (rfirstF l k).toNat) k) = false → ∀ x ∈ l.drop r, ltB k (keyV x) = true) ∧
    ((decide (rfirstF l k < (l.length : Int)) && eqB (kP l (rfirstF l k).toNat) k) = true → ∃ h : r < l.length, keyV l[r] = k ∧ ∀ x ∈ l.drop (r + 1), ltB k (keyV x) = true) := by
  obtain ⟨_, h2, h3, h4⟩ := firstN_ok (fun i => ltB (kP l i) k) l.length 0
  generalize hR : firstN (fun i => ltB (kP l i) k) l.length 0 = r at h2 h3 h4
  have hrf : rfirstF l k = r := by unfold rfirstF; rw [hR]
  rw [hrf, Int.toNat_natCast]
  refine ⟨r, rfl, by omega, fun x hx => ?_, fun hn x hx => ?_, fun hy => ?_⟩
  · obtain ⟨i, hi, rfl⟩ := List.getElem_of_mem hx
    rw [List.length_take] at hi
    rw [List.getElem_take]
    have := h3 i (Nat.zero_le _) (by omega)
    rwa [kP_get (by omega)] at this
  · obtain ⟨i, hi, rfl⟩ := List.getElem_of_mem hx
    rw [List.length_drop] at hi
    rw [List.getElem_drop]
    have hlt : r < l.length := by omega
    have h5 := h4 (by omega)
    rw [kP_get hlt] at h5
    rw [decide_eq_true (by omega), Bool.true_and, kP_get hlt] at hn
    have h6 : ltB k (keyV l[r]) = true := by
      rcases lt_total h5 with h | h
      · exact h
      · rw [h] at hn; rw [eqB_iff.2 rfl] at hn; cases hn
    by_cases e : i = 0
    · subst e; exact h6
    · exact lt_trans h6 ((List.pairwise_iff_getElem.1 ho) r (r + i) hlt (by omega) (by omega))
  · rw [Bool.and_eq_true, decide_eq_true_eq] at hy
    have hlt : r < l.length := by omega
    have h6 : keyV l[r] = k := by have := eqB_iff.1 hy.2; rwa [kP_get hlt] at this
    refine ⟨hlt, h6, fun x hx => ?_⟩
    obtain ⟨i, hi, rfl⟩ := List.getElem_of_mem hx
    rw [List.length_drop] at hi
    rw [List.getElem_drop, ← h6]
    exact (List.pairwise_iff_getElem.1 ho) r (r + 1 + i) hlt (by omega) (by omega)
theorem delL_filter (hw : Wf l) : ∀ n, n ≤ l.length → delL l k n = (l.take n).filter fun x => !eqB (keyV x) k
  | 0, _ => by simp [delL]
  | n + 1, h => by
    have hx : l[n]? = some l[n] := List.getElem?_eq_getElem (by omega)
    have ih := delL_filter hw n (by omega)
    have e : prV (keyV l[n]) (valV l[n]) = l[n] := (hw _ (List.getElem_mem (by omega : n < l.length))).symm
    unfold delL
    rw [ih, List.take_add_one, hx, Option.toList_some, List.filter_append, kP_get (by omega), vP_get (by omega), e]
    cases h1 : eqB (keyV l[n]) k with
    | true => rw [if_pos rfl]; simp [List.filter, h1]
    | false => rw [if_neg Bool.false_ne_true]; simp [List.filter, h1]
theorem rdel_eq (hw : Wf l) : rdelF l k = l.filter fun x => !eqB (keyV x) k := by
  unfold rdelF
  rw [delL_filter k hw _ (Nat.le_refl _), List.take_length]
theorem drop_rdel (hw : Wf l) (ho : Ord l) : dropF l k = rdelF l k := by
  rw [rdel_eq k hw]
  unfold dropF
  rw [fd_eq k ho, bs_rfirst k ho]
  obtain ⟨r, hr, hle, h1, h2, h3⟩ := split_at k ho
  have low : (l.take r).filter (fun x => !eqB (keyV x) k) = l.take r := List.filter_eq_self.2 fun x hx => by rw [lt_ne (h1 x hx)]; rfl
  split
  · rename_i hy
    obtain ⟨hlt, hk, h4⟩ := h3 hy
    have high : (l.drop (r + 1)).filter (fun x => !eqB (keyV x) k) = l.drop (r + 1) := List.filter_eq_self.2 fun x hx => by rw [gt_ne (h4 x hx)]; rfl
    have hd : l.drop r = l[r] :: l.drop (r + 1) := List.drop_eq_getElem_cons hlt
    conv => rhs; rw [← List.take_append_drop r l]
    rw [List.filter_append, low, hd, List.filter_cons, hk, eqB_iff.2 rfl, hr, Int.toNat_natCast]
    simp only [Bool.not_true, Bool.false_eq_true, if_false]
    rw [high]
  · rename_i hy
    have h4 := h2 (by simpa using hy)
    have high : (l.drop r).filter (fun x => !eqB (keyV x) k) = l.drop r := List.filter_eq_self.2 fun x hx => by rw [gt_ne (h4 x hx)]; rfl
    conv => rhs; rw [← List.take_append_drop r l]
    rw [List.filter_append, low, high, List.take_append_drop]
end
theorem right_filter {l : List Value} (p : Value → Bool) (h : RightL l) : RightL (l.filter p) := by
  obtain ⟨h1, h2⟩ := h
  rw [right_iff] at h1
  refine ⟨(right_iff _).2 ⟨fun x hx => h1.1 x (List.mem_filter.1 hx).1, h1.2.1.filter p, ?_⟩, fun x hx => h2 x (List.mem_filter.1 hx).1⟩
  have := List.length_filter_le p l
  omega
theorem may_rmay (k v : ByteArray) : rmayF k v = mayF k v := by
  unfold rmayF mayF
  congr 1
  unfold eqB lenB noB
  cases h : k.data.toList with
  | nil => rfl
  | cons a r => simp; omega
theorem setok_eq {l : List Value} (h : RightL l) (k v : ByteArray) : setokF l k v = (rmayF k v && !decide (30 < ((rsetF l k v).length : Int))) := by
  have ho := ((right_iff l).1 h.1).2
  unfold setokF
  rw [may_rmay, fd_eq k ho.1]
  congr 1
  obtain ⟨r, hr, hle, h1, h2, h3⟩ := split_at k ho.1
  unfold rsetF putF
  rw [hr, Int.toNat_natCast]
  rw [hr, Int.toNat_natCast] at h3
  cases hc : (decide ((r : Int) < (l.length : Int)) && eqB (kP l r) k) with
  | true =>
    obtain ⟨hlt, _⟩ := h3 hc
    rw [if_pos rfl]
    have : (List.take r l ++ [prV k v] ++ List.drop (r + 1) l).length = l.length := by
      simp only [List.length_append, List.length_take, List.length_drop, List.length_cons, List.length_nil]; omega
    rw [this, Bool.true_or, decide_eq_false (by omega)]; rfl
  | false =>
    rw [if_neg Bool.false_ne_true]
    have : (List.take r l ++ [prV k v] ++ List.drop r l).length = l.length + 1 := by
      simp only [List.length_append, List.length_take, List.length_drop, List.length_cons, List.length_nil]; omega
    rw [this, Bool.false_or]
    by_cases e : l.length < 30
    · rw [decide_eq_true (by omega), decide_eq_false (by omega)]; rfl
    · rw [decide_eq_false (by omega), decide_eq_true (by omega)]; rfl
theorem set_rset {l : List Value} (h : RightL l) {k v : ByteArray} (hok : setokF l k v = true) : setF l k v = rsetF l k v ∧ RightL (rsetF l k v) := by
  have ho := ((right_iff l).1 h.1).2
  have hmay := ((right_iff l).1 h.1).1
  have hok2 := setok_eq h k v
  rw [hok] at hok2
  have hok2 := hok2.symm
  rw [Bool.and_eq_true] at hok2
  have hlen : (rsetF l k v).length ≤ 30 := by
    have := hok2.2
    simp only [Bool.not_eq_true', decide_eq_false_iff_not] at this
    omega
  have hm : mayF k v = true := by rw [← may_rmay]; exact hok2.1
  refine ⟨?_, ?_⟩
  · unfold setF
    rw [if_pos hok, fd_eq k ho.1, bs_rfirst k ho.1]; rfl
  · obtain ⟨r, hr, hle, h1, h2, h3⟩ := split_at k ho.1
    have hpk : keyV (prV k v) = k := rfl
    have hpv : valV (prV k v) = v := rfl
    have mk : ∀ j, r ≤ j → (∀ x ∈ l.drop j, ltB k (keyV x) = true) → (l.take r ++ [prV k v] ++ l.drop j).length ≤ 30 → RightL (l.take r ++ [prV k v] ++ l.drop j) := by
      intro j hj hd hl
      have mem : ∀ x ∈ l.take r ++ [prV k v] ++ l.drop j, x ∈ l ∨ x = prV k v := by
        intro x hx
        rcases List.mem_append.1 hx with hx | hx
        · rcases List.mem_append.1 hx with hx | hx
          · exact .inl (List.mem_of_mem_take hx)
          · exact .inr (List.mem_singleton.1 hx)
        · exact .inl (List.mem_of_mem_drop hx)
      refine ⟨(right_iff _).2 ⟨fun x hx => ?_, ?_, hl⟩, fun x hx => ?_⟩
      · rcases mem x hx with hx | rfl
        · exact hmay x hx
        · exact hm
      · unfold Ord
        rw [List.pairwise_append, List.pairwise_append]
        refine ⟨⟨ho.1.sublist (List.take_sublist _ _), List.pairwise_singleton _ _, fun x hx y hy => ?_⟩, ho.1.sublist (List.drop_sublist _ _), fun x hx y hy => ?_⟩
        · rw [List.mem_singleton.1 hy, hpk]; exact h1 x hx
        · rcases List.mem_append.1 hx with hx | hx
          · exact lt_trans (h1 x hx) (hd y hy)
          · rw [List.mem_singleton.1 hx, hpk]; exact hd y hy
      · rcases mem x hx with hx | rfl
        · exact h.2 x hx
        · rfl
    unfold rsetF putF at hlen ⊢
    rw [hr, Int.toNat_natCast] at h2 h3 hlen ⊢
    cases hc : (decide ((r : Int) < (l.length : Int)) && eqB (kP l r) k) with
    | true =>
      rw [hc, if_pos rfl] at hlen
      rw [if_pos rfl]
      obtain ⟨_, _, h4⟩ := h3 hc
      exact mk (r + 1) (by omega) h4 hlen
    | false =>
      rw [hc, if_neg Bool.false_ne_true] at hlen
      rw [if_neg Bool.false_ne_true]
      exact mk r (by omega) (h2 hc) hlen
theorem same_self (l : List Value) : sameF l l = true := by
  unfold sameF
  rw [beq_self_eq_true, Bool.true_and]
  exact all_yes fun i _ => by unfold sameAt; rw [eqB_iff.2 rfl, eqB_iff.2 rfl]; rfl
theorem right_nil : RightL [] := ⟨rfl, fun x hx => by simp at hx⟩
end Go.Proofs.Ytmhfnbbamoadgaa
end
section
namespace Go.Proofs.Ytmhfnbbamoadgaa
open Go.RowKit Go.Abs Go
theorem shr7' (n : Int) : std.shr .i64 n 7 = n / 128 := by
  show n.fdiv 128 = n / 128
  exact Int.fdiv_eq_ediv_of_nonneg n (by omega)
theorem oneL_len : ∀ (f : Nat) (n : Int), (oneL f n).length ≤ f
  | 0, _ => Nat.le_refl _
  | f + 1, n => by
    unfold oneL
    split
    · have := oneL_len f (std.shr .i64 n 7)
      simp; omega
    · simp
def oneI (n : Int) (d : OneL) : Prop := ∃ f : Nat, d.r ++ oneL (f + 1) d.n = oneF n ∧ 0 ≤ d.n ∧ d.n < 128 ^ (f + 1) ∧ d.r.length + f ≤ 6
theorem one_run (n : Int) (hn : 0 ≤ n ∧ n ≤ 1099511627775) : runP std noCon 40 (oneLs (oneI n) fun d => d.n.toNat) (oneP std kvF) 57 Try.f57 (n, ()) := by
  rw [one_vc]
  refine ⟨fun h => ?_, fun _ => ⟨fun h => ?_, fun _ => ⟨⟨n, []⟩, rfl, ⟨6, rfl, hn.1, ?_, by simp⟩, fun d ⟨f, h1, h2, h3, h4⟩ => ⟨fun h => ?_, fun h => ?_⟩⟩⟩⟩
  · have h := of_decide_eq_true h; omega
  · have h := of_decide_eq_true h; omega
  · show n < 128 ^ 7
    omega
  · have h := of_decide_eq_true h
    obtain ⟨f, rfl⟩ : ∃ f', f = f' + 1 := by
      cases f with
      | zero => simp at h3; omega
      | succ f => exact ⟨f, rfl⟩
    have e : oneL (f + 1 + 1) d.n = .int .u8 (std.wrap .u8 (std.bor .i64 (std.band .i64 d.n 127) 128)) :: oneL (f + 1) (std.shr .i64 d.n 7) := by
      conv => lhs; unfold oneL
      rw [if_pos h]
    rw [e] at h1
    refine ⟨?_, by decide, ⟨_, _⟩, rfl, ?_, f, ?_, ?_, ?_, ?_⟩
    · simp only [List.length_append, List.length_cons, List.length_nil]; omega
    · show (std.shr .i64 d.n 7).toNat + 1 ≤ d.n.toNat
      rw [shr7']; omega
    · show (d.r ++ [_]) ++ oneL (f + 1) (std.shr .i64 d.n 7) = oneF n
      rw [List.append_assoc]; exact h1
    · show 0 ≤ std.shr .i64 d.n 7
      rw [shr7']; omega
    · show std.shr .i64 d.n 7 < 128 ^ (f + 1)
      rw [shr7', Int.ediv_lt_iff_lt_mul (by omega)]
      rw [Int.pow_succ] at h3
      exact h3
    · simp only [List.length_append, List.length_cons, List.length_nil]; omega
  · have h : ¬ 127 < d.n := of_decide_eq_false h
    have e : oneL (f + 1) d.n = [.int .u8 (std.wrap .u8 d.n)] := by unfold oneL; rw [if_neg h]
    rw [e] at h1
    refine ⟨?_, ?_⟩
    · simp only [List.length_append, List.length_cons, List.length_nil]; omega
    · show [dsl (.int .u8 0) (d.r ++ [.int .u8 (std.wrap .u8 d.n)])] = [dsl (.int .u8 0) (oneF n)]
      rw [h1]
def textL (xs : List Value) : Nat → List Value
  | 0 => []
  | i + 1 => textL xs i ++ (oneF (lenB (eS xs i) : Int) ++ std.svals (eS xs i))
theorem textL_eq (xs : List Value) : ∀ n, textL xs n = (List.range n).flatMap fun i => oneF (lenB (eS xs i) : Int) ++ std.svals (eS xs i)
  | 0 => rfl
  | n + 1 => by unfold textL; rw [textL_eq xs n, List.range_succ, List.flatMap_append]; simp
theorem svals_len (s : ByteArray) : (std.svals s).length = lenB s := List.length_map ..
theorem textL_len {xs : List Value} (hl : ∀ i, i < xs.length → lenB (eS xs i) ≤ 1000000) : ∀ i, i ≤ xs.length → (textL xs i).length ≤ i * 1000007
  | 0, _ => by simp [textL]
  | i + 1, h => by
    have h1 := textL_len hl i (by omega)
    have h2 := hl i (by omega)
    have h3 := oneL_len 7 (lenB (eS xs i) : Int)
    unfold textL
    rw [List.length_append, List.length_append, svals_len]
    show _ + ((oneL 7 _).length + _) ≤ _
    omega
theorem svals_inj {s t : ByteArray} (h : std.svals s = std.svals t) : s = t := by
  have h : (s.data.toList.map fun b : UInt8 => Value.int .u8 b.toNat) = t.data.toList.map fun b : UInt8 => Value.int .u8 b.toNat := h
  have : s.data.toList = t.data.toList := by
    refine List.map_inj_right (fun a b e => ?_) |>.1 h
    simp only [Value.int.injEq, true_and] at e
    rw [u8_eq']; omega
  exact eqB_iff.1 (by unfold eqB; rw [this]; exact beq_self_eq_true _)
where u8_eq' {a b : UInt8} : a = b ↔ a.toNat = b.toNat := UInt8.toNat_inj.symm
/-- Small texts tell what they were made of. -/
theorem leaf_inj {k v k' v' : ByteArray} (h1 : lenB k ≤ 127) (h2 : lenB k' ≤ 127) (h : leafF k v = leafF k' v') : k = k' := by
  have small : ∀ s : ByteArray, lenB s ≤ 127 → oneF (lenB s : Int) = [.int .u8 (lenB s : Int)] := fun s hs => by
    unfold oneF oneL
    rw [if_neg (by omega)]
    have : std.wrap .u8 (lenB s : Int) = (lenB s : Int) := by
      show (lenB s : Int) % 256 = _
      omega
    rw [this]
  have e : ∀ a b : ByteArray, leafF a b = oneF (lenB a : Int) ++ std.svals a ++ (oneF (lenB b : Int) ++ std.svals b ++ []) := fun a b => rfl
  rw [e, e, small k h1, small k' h2] at h
  simp only [List.cons_append, List.nil_append, List.cons.injEq, Value.int.injEq, true_and] at h
  exact svals_inj (List.append_inj h.2 (by rw [svals_len, svals_len]; omega)).1
end Go.Proofs.Ytmhfnbbamoadgaa
end
section
namespace Go.Proofs.Ytmhfnbbamoadgaa
open Go.RowKit Go.Abs Go
def MX : Int := 1099511627775
def MA : Int := 1073741824
def one1F (n : Int) : List Value := if 0 ≤ n ∧ n ≤ 1099511627775 then oneF n else []
def numsL (xs : List Value) : Nat → List Value
  | 0 => []
  | i + 1 => numsL xs i ++ one1F (eI xs i)
def numsF (xs : List Value) : List Value := numsL xs xs.length
def bits7 (n y s : Int) : Int := std.bor .i64 n (std.shl .i64 (std.wrap .i64 (std.band .u8 y 127)) s)
/-- A number read: so many rounds, the shift, what there is so far, the bytes, were they bad before? -/
def numG : Nat → Int → Int → List Value → Bool → Int × List Value × Bool
  | 0, _, _, xs, _ => (0, xs, true)
  | f + 1, s, n, xs, bad => if bad then (0, xs, true) else match xs with
    | [] => (0, [], true)
    | y :: r => if dint y < 128 then (if 1099511627775 < bits7 n (dint y) s ∨ dint y = 0 ∧ 0 < s then (0, r, true) else (bits7 n (dint y) s, r, false)) else numG f (s + 7) (bits7 n (dint y) s) r false
def rd1 (s : ByteArray) : Int × List Value × Bool := numG 6 0 0 (std.svals s) false
def rd2 (s : ByteArray) : Int × List Value × Bool := numG 6 0 0 (rd1 s).2.1 (rd1 s).2.2
def rokF (s : ByteArray) : Bool := !(rd2 s).2.2 && (((rd2 s).2.1.length : Int) == 0 && (decide (0 ≤ (rd1 s).1) && (decide ((rd1 s).1 ≤ 1073741824) && (decide (0 ≤ (rd2 s).1) && decide ((rd2 s).1 ≤ 1073741824)))))
def rtokF (s : ByteArray) : Int := if rokF s then (rd1 s).1 else 0
def rrewF (s : ByteArray) : Int := if rokF s then (rd2 s).1 else 0
def isA (n : Int) : Bool := decide (0 ≤ n) && decide (n ≤ 1073741824)
def recB (a b : Int) : ByteArray := std.sof (std.ints (one1F a ++ one1F b))
def rcdF (a b : Int) : ByteArray := if isA a && isA b then recB a b else noB
def nvalF (s : ByteArray) : Int := (rd1 s).1
def nlenF (s : ByteArray) : Int := if (rd1 s).2.2 then 0 else (lenB s : Int) - ((rd1 s).2.1.length : Int)
def sB : ByteArray := ⟨#[115, 47]⟩
def isF (k : ByteArray) : Bool := decide ((2 : Int) ≤ (lenB k : Int)) && eqB (std.ssub k 0 2) sB
def bkSumL (xs : List Value) : Nat → Option Int
  | 0 => some 0
  | i + 1 => match bkSumL xs i with
    | none => none
    | some a => if isF (kP xs i) then (if rokF (vP xs i) then some (a + (rtokF (vP xs i) + rrewF (vP xs i))) else none) else some a
def bckF (xs : List Value) : Int := match bkSumL xs xs.length with
  | some a => if a ≤ 1073741824 then a else 0
  | none => 0
def bokF (xs : List Value) : Bool := match bkSumL xs xs.length with
  | some a => decide (a ≤ 1073741824)
  | none => false
def keyS (s : ByteArray) : ByteArray := sB ++ s
/-- A staking transaction turns tokens, rewards; its error. -/
def turnF (k a b t r : Int) : Int × Int × Int :=
  if k = 1 then (t + a, r, 0) else if k = 2 then (t, r + a, 0) else if b < 1 ∨ 1048576 < b ∨ b < a then (0, 0, 1) else (Int.tdiv (t * (b - a)) b, r, 0)
/-- A staking transaction's end. -/
def stkTail (xs : List Value) (K : ByteArray) (t r : Int) : List Value × Int :=
  if fdF xs K || decide ((xs.length : Int) < 30) then (if isA t && (isA r && bokF (setF xs K (recB t r))) then (setF xs K (recB t r), 0) else (xs, 11)) else (xs, 7)
/-- A staking transaction: the row, the error. -/
def stkF (k : Int) (xs : List Value) (s : ByteArray) (a b : Int) : List Value × Int :=
  if eqB s noB || (decide ((16 : Int) < (lenB (keyS s) : Int)) || !isA a) then (xs, 1) else
  if fdF xs (keyS s) && !rokF (getF xs (keyS s)) then (xs, 1) else if !fdF xs (keyS s) && !decide (k = 1) then (xs, 3) else
  if (turnF k a b (rtokF (getF xs (keyS s))) (rrewF (getF xs (keyS s)))).2.2 = 1 then (xs, 1) else
  stkTail xs (keyS s) (turnF k a b (rtokF (getF xs (keyS s))) (rrewF (getF xs (keyS s)))).1 (turnF k a b (rtokF (getF xs (keyS s))) (rrewF (getF xs (keyS s)))).2.1
/-- affiantkeep.Pick. -/
def pickF (xs : List Value) (i : Int) : Int := if xs.length = 0 then 0 else (eI xs (Int.tmod i xs.length).toNat) % 1073741825
noncomputable def stF : StF where
  one := one1F
  put := numsF
  numn := fun b c => (numG 6 0 0 b c).1
  numr := fun b c => (numG 6 0 0 b c).2.1
  numb := fun b c => (numG 6 0 0 b c).2.2
  rtok := rtokF
  rrew := rrewF
  rok := rokF
  rcd := rcdF
  rput := one1F
  rrcd := recB
  nval := nvalF
  nlen := nlenF
  qtok := rtokF
  qrew := rrewF
  qok := rokF
  bck := bckF
  bok := bokF
  rbck := bckF
  rbok := bokF
  stk := fun k xs s a b => (stkF k xs s a b).1
  ster := fun k xs s a b => (stkF k xs s a b).2
  rstk := fun k xs s a b => (stkF k xs s a b).1
  rster := fun k xs s a b => (stkF k xs s a b).2
  okl := RightL
  pick := pickF

/-- Bits. -/
theorem ofInt_nat (x : Nat) (k : Nat) : (BitVec.ofInt k (x : Int)).toNat = x % 2 ^ k := by
  rw [BitVec.toNat_ofInt]; omega
theorem bor_nat {x y : Nat} (hx : x < 4398046511104) (hy : y < 4398046511104) : std.bor .i64 (x : Int) (y : Int) = ((x ||| y : Nat) : Int) := by
  show IntKind.wrap .i64 (((BitVec.ofInt 64 (x : Int)) ||| (BitVec.ofInt 64 (y : Int))).toNat : Int) = _
  rw [BitVec.toNat_or, ofInt_nat, ofInt_nat, Nat.mod_eq_of_lt (show x < 2 ^ 64 by omega), Nat.mod_eq_of_lt (show y < 2 ^ 64 by omega)]
  have : x ||| y < 2 ^ 42 := Nat.or_lt_two_pow (by omega) (by omega)
  exact wrap_i64 (by omega)
theorem band8 (y : Nat) : std.band .u8 (y : Int) 127 = ((y % 128 : Nat) : Int) := by
  show IntKind.wrap .u8 (((BitVec.ofInt 8 (y : Int)) &&& (BitVec.ofInt 8 ((127 : Nat) : Int))).toNat : Int) = _
  rw [BitVec.toNat_and, ofInt_nat, ofInt_nat, show 127 % 2 ^ 8 = 2 ^ 7 - 1 from rfl, Nat.and_two_pow_sub_one_eq_mod]
  show ((y % 2 ^ 8 % 2 ^ 7 : Nat) : Int) % 256 = _
  omega
theorem band_le (y : Int) : ∃ z : Nat, z < 128 ∧ std.band .u8 y 127 = z := by
  refine ⟨((BitVec.ofInt 8 y) &&& (BitVec.ofInt 8 ((127 : Nat) : Int))).toNat, ?_, ?_⟩
  · rw [BitVec.toNat_and, ofInt_nat, show 127 % 2 ^ 8 = 127 from rfl]
    exact Nat.lt_of_le_of_lt Nat.and_le_right (by omega)
  · have h : ((BitVec.ofInt 8 y) &&& (BitVec.ofInt 8 ((127 : Nat) : Int))).toNat < 128 := by
      rw [BitVec.toNat_and, ofInt_nat, show 127 % 2 ^ 8 = 127 from rfl]
      exact Nat.lt_of_le_of_lt Nat.and_le_right (by omega)
    show ((((BitVec.ofInt 8 y) &&& (BitVec.ofInt 8 ((127 : Nat) : Int))).toNat : Nat) : Int) % 256 = _
    omega
theorem shl_nat {z k : Nat} (hz : z < 128) (hk : k ≤ 35) : std.shl .i64 (std.wrap .i64 (z : Int)) (k : Int) = ((z * 2 ^ k : Nat) : Int) := by
  have h1 : std.wrap .i64 (z : Int) = z := wrap_i64 (by omega)
  rw [h1]
  show IntKind.wrap .i64 ((z : Int) * 2 ^ (min ((k : Int).toNat) 64)) = _
  rw [show min ((k : Int).toNat) 64 = k by omega]
  have h2 : 2 ^ k ≤ 2 ^ 35 := Nat.pow_le_pow_right (by omega) hk
  have h3 : z * 2 ^ k ≤ 128 * 2 ^ 35 := Nat.mul_le_mul (by omega) h2
  have h4 : ((z : Int) * 2 ^ k) = ((z * 2 ^ k : Nat) : Int) := by push_cast; rfl
  rw [h4]
  exact wrap_i64 (by omega)
theorem bits_nat {n z k : Nat} {y : Int} (hn : n < 4398046511104) (hy : std.band .u8 y 127 = z) (hz : z < 128) (hk : k ≤ 35) : bits7 n y k = ((n ||| z * 2 ^ k : Nat) : Int) ∧ n ||| z * 2 ^ k < 4398046511104 := by
  have h2 : 2 ^ k ≤ 2 ^ 35 := Nat.pow_le_pow_right (by omega) hk
  have h3 : z * 2 ^ k ≤ 127 * 2 ^ 35 := Nat.mul_le_mul (by omega) h2
  unfold bits7
  rw [hy, shl_nat hz hk, bor_nat hn (by omega)]
  exact ⟨rfl, Nat.or_lt_two_pow (n := 42) (by omega) (by omega)⟩
theorem bits_nn {n y s : Int} (hn : 0 ≤ n ∧ n < 4398046511104) (hs : 0 ≤ s ∧ s ≤ 35) : 0 ≤ bits7 n y s ∧ bits7 n y s < 4398046511104 := by
  obtain ⟨z, hz, hy⟩ := band_le y
  obtain ⟨h1, h2⟩ := bits_nat (n := n.toNat) (k := s.toNat) (by omega) hy hz (by omega)
  rw [show ((n.toNat : Nat) : Int) = n by omega, show ((s.toNat : Nat) : Int) = s by omega] at h1
  omega
theorem numG_nn : ∀ (f : Nat) (s n : Int) (xs : List Value) (bad : Bool), 0 ≤ s → s + 7 * f ≤ 42 → 0 ≤ n ∧ n < 4398046511104 → 0 ≤ (numG f s n xs bad).1 ∧ (numG f s n xs bad).1 ≤ 1099511627775 ∧ ∃ k, (numG f s n xs bad).2.1 = xs.drop k ∧ k ≤ xs.length ∧ ((numG f s n xs bad).2.2 = false → 1 ≤ k)
  | 0, _, _, xs, _, _, _, _ => ⟨by show (0 : Int) ≤ 0; omega, by show (0 : Int) ≤ _; omega, 0, rfl, Nat.zero_le _, fun h => by cases h⟩
  | f + 1, s, n, xs, bad, h0, h1, hn => by
    unfold numG
    cases bad with
    | true => exact ⟨by show (0 : Int) ≤ 0; omega, by show (0 : Int) ≤ _; omega, 0, rfl, Nat.zero_le _, fun h => by cases h⟩
    | false =>
      rw [if_neg Bool.false_ne_true]
      cases xs with
      | nil => exact ⟨by show (0 : Int) ≤ 0; omega, by show (0 : Int) ≤ _; omega, 0, rfl, Nat.zero_le _, fun h => by cases h⟩
      | cons y r =>
        have hb := bits_nn (y := dint y) hn (show 0 ≤ s ∧ s ≤ 35 by omega)
        simp only
        split
        · split
          · exact ⟨by show (0 : Int) ≤ 0; omega, by show (0 : Int) ≤ _; omega, 1, rfl, by simp, fun h => by cases h⟩
          · rename_i hc
            exact ⟨hb.1, by show bits7 n (dint y) s ≤ _; omega, 1, rfl, by simp, fun _ => Nat.le_refl _⟩
        · obtain ⟨h2, h3, k, h4, h5, h6⟩ := numG_nn f (s + 7) _ r false (by omega) (by omega) hb
          exact ⟨h2, h3, k + 1, by rw [h4]; rfl, by simp; exact h5, fun _ => by omega⟩
theorem oneL_more : ∀ (f g : Nat) (m : Int), 0 ≤ m → m < 128 ^ (f + 1) → m < 128 ^ (g + 1) → oneL (f + 1) m = oneL (g + 1) m
  | f, g, m, h0, h1, h2 => by
    unfold oneL
    split
    · rename_i h
      cases f with
      | zero => exfalso; simp at h1; omega
      | succ f =>
        cases g with
        | zero => exfalso; simp at h2; omega
        | succ g =>
          rw [shr7']
          rw [oneL_more f g (m / 128) (by omega) (by rw [Int.ediv_lt_iff_lt_mul (by omega)]; rw [Int.pow_succ] at h1; exact h1) (by rw [Int.ediv_lt_iff_lt_mul (by omega)]; rw [Int.pow_succ] at h2; exact h2)]
    · rfl
theorem one1_pos {n : Int} (h0 : 0 ≤ n) (h1 : n ≤ 1099511627775) : one1F n = oneL 7 n := by
  unfold one1F; rw [if_pos ⟨h0, h1⟩]; rfl
theorem one1_step {n : Int} (h0 : 0 ≤ n) (h1 : n ≤ 1099511627775) : one1F n = if 127 < n then .int .u8 (std.wrap .u8 (std.bor .i64 (std.band .i64 n 127) 128)) :: one1F (n / 128) else [.int .u8 (std.wrap .u8 n)] := by
  rw [one1_pos h0 h1]
  conv => lhs; unfold oneL
  split
  · rw [one1_pos (by omega) (by omega), shr7', oneL_more 5 6 (n / 128) (by omega) (by omega) (by omega)]
  · rfl
theorem one1_len (n : Int) : (one1F n).length ≤ 7 := by
  unfold one1F
  split
  · exact oneL_len 7 n
  · exact Nat.zero_le _

theorem one1_run (n : Int) : runP std noCon 40 (oneLs (oneI n) fun d => d.n.toNat) (one1P std stF) 57 Try.f57 (n, ()) := by
  rw [one1_vc]
  have no : ¬ (0 ≤ n ∧ n ≤ 1099511627775) → [dsl (.int .u8 0) []] = [dsl (.int .u8 0) (stF.one n)] := fun h => by
    show _ = [dsl (.int .u8 0) (one1F n)]
    unfold one1F
    rw [if_neg h]
  refine ⟨fun h => no ?_, fun h0 => ⟨fun h => no ?_, fun h1 => ⟨⟨n, []⟩, rfl, ⟨6, rfl, ?_, ?_, by simp⟩, fun d ⟨f, h1', h2, h3, h4⟩ => ⟨fun h => ?_, fun h => ?_⟩⟩⟩⟩
  · have h := of_decide_eq_true h; omega
  · have h := of_decide_eq_true h; omega
  · have := of_decide_eq_false h0
    show 0 ≤ n
    omega
  · have := of_decide_eq_false h1
    show n < 128 ^ 7
    omega
  · have h := of_decide_eq_true h
    obtain ⟨f, rfl⟩ : ∃ f', f = f' + 1 := by
      cases f with
      | zero => simp at h3; omega
      | succ f => exact ⟨f, rfl⟩
    have e : oneL (f + 1 + 1) d.n = .int .u8 (std.wrap .u8 (std.bor .i64 (std.band .i64 d.n 127) 128)) :: oneL (f + 1) (std.shr .i64 d.n 7) := by
      conv => lhs; unfold oneL
      rw [if_pos h]
    rw [e] at h1'
    refine ⟨?_, by decide, ⟨_, _⟩, rfl, ?_, f, ?_, ?_, ?_, ?_⟩
    · simp only [List.length_append, List.length_cons, List.length_nil]; omega
    · show (std.shr .i64 d.n 7).toNat + 1 ≤ d.n.toNat
      rw [shr7']; omega
    · show (d.r ++ [_]) ++ oneL (f + 1) (std.shr .i64 d.n 7) = oneF n
      rw [List.append_assoc]; exact h1'
    · show 0 ≤ std.shr .i64 d.n 7
      rw [shr7']; omega
    · show std.shr .i64 d.n 7 < 128 ^ (f + 1)
      rw [shr7', Int.ediv_lt_iff_lt_mul (by omega)]
      rw [Int.pow_succ] at h3
      exact h3
    · simp only [List.length_append, List.length_cons, List.length_nil]; omega
  · have h : ¬ 127 < d.n := of_decide_eq_false h
    have h0 := of_decide_eq_false h0
    have h1 := of_decide_eq_false h1
    have e : oneL (f + 1) d.n = [.int .u8 (std.wrap .u8 d.n)] := by unfold oneL; rw [if_neg h]
    rw [e] at h1'
    refine ⟨?_, ?_⟩
    · simp only [List.length_append, List.length_cons, List.length_nil]; omega
    · show [dsl (.int .u8 0) (d.r ++ [.int .u8 (std.wrap .u8 d.n)])] = [dsl (.int .u8 0) (one1F n)]
      rw [h1']
      unfold one1F
      rw [if_pos (by omega)]
theorem numsL_len (xs : List Value) : ∀ i, (numsL xs i).length ≤ 7 * i
  | 0 => Nat.le_refl _
  | i + 1 => by
    have h1 := numsL_len xs i
    have h2 := one1_len (eI xs i)
    show (numsL xs i ++ one1F (eI xs i)).length ≤ _
    rw [List.length_append]; omega
theorem put_run (xs : List Value) (hx : xs.length ≤ 1000000) (hi : ∀ i, i < xs.length → -9223372036854775808 ≤ eI xs i ∧ eI xs i ≤ 9223372036854775807) : runP std (putCon std stF) 40 (putLs xs (fun d => d.n = xs.length ∧ ∃ i : Nat, d.i = i ∧ i ≤ xs.length ∧ d.r = numsL xs i) fun d => (d.n - d.i).toNat) (putP std stF) 36 Try.f36 (xs, ()) := by
  rw [put_vc]
  refine ⟨⟨[], xs.length, 0⟩, rfl, ⟨rfl, 0, rfl, Nat.zero_le _, rfl⟩, fun d ⟨hn, i, hi', hle, hr⟩ => ⟨fun h => ?_, fun h => ?_⟩⟩
  · have h := of_decide_eq_true h
    have hlt : i < xs.length := by omega
    have hp : d.r ++ stF.one (eI xs i) = numsL xs (i + 1) := by rw [hr]; rfl
    have hl := numsL_len xs (i + 1)
    rw [show d.i.toNat = i by omega, hp]
    refine ⟨by omega, hi i hlt, by omega, by omega, ⟨numsL xs (i + 1), d.n, d.i + 1⟩, rfl, ?_, hn, i + 1, by show d.i + 1 = _; omega, hlt, rfl⟩
    show (d.n - (d.i + 1)).toNat + 1 ≤ (d.n - d.i).toNat; omega
  · have h := of_decide_eq_false h
    show [dsl _ d.r] = [dsl _ (numsF xs)]
    rw [hr, show i = xs.length by omega]; rfl
theorem read_run (xs : List Value) (hx : xs.length ≤ 4000000) : runW std noCon 40 noL (readO std) 64 Try.f64 (xs, ()) := by
  rw [read_vc]
  exact ⟨by omega, rfl⟩
def numI (b : List Value) (bad : Bool) (d : NuL) : Prop := ∃ f : Nat, d.s = 42 - 7 * f ∧ f ≤ 6 ∧ numG f d.s d.n d.b d.bad = numG 6 0 0 b bad
theorem num_run (b : List Value) (bad : Bool) : runW std noCon 60 (numLs (numI b bad) fun d => (42 - d.s).toNat) (numO stF) 65 Try.f65 (b, bad, ()) := by
  rw [num_vc]
  have key : ∀ (n : Int) (r : List Value) (c : Bool), (n, r, c) = numG 6 0 0 b bad → [Filler.val (.int .i64 (stF.numn b bad)), .dl (stF.numr b bad), .val (.bool (stF.numb b bad))] = [Filler.val (.int .i64 n), .dl r, .val (.bool c)] := by
    intro n r c h
    show [Filler.val (.int .i64 (numG 6 0 0 b bad).1), .dl (numG 6 0 0 b bad).2.1, .val (.bool (numG 6 0 0 b bad).2.2)] = _
    rw [← h]
  refine ⟨⟨0, 0, b, bad⟩, rfl, ⟨6, rfl, Nat.le_refl _, rfl⟩, fun ⟨dn, ds, db, dbad⟩ ⟨f, hs, hf, hg⟩ => ?_⟩
  dsimp only at hs hf hg ⊢
  refine ⟨fun h => ?_, fun h => key _ _ _ ?_⟩
  · have h := of_decide_eq_true h
    obtain ⟨f, rfl⟩ : ∃ f', f = f' + 1 := ⟨f - 1, by omega⟩
    unfold numG at hg
    refine ⟨fun h1 => key _ _ _ ?_, fun h1 => ?_⟩
    · rw [h1, if_pos rfl] at hg; exact hg
    · rw [h1, if_neg Bool.false_ne_true] at hg
      cases db with
      | nil => exact ⟨fun _ => key _ _ _ hg, fun h2 => absurd (of_decide_eq_false h2) (by simp)⟩
      | cons y r =>
        simp only at hg
        have e1 : List.take ((1 : Int).toNat - 0) (List.drop 0 (y :: r)) = [y] := rfl
        have e2 : List.take ((y :: r).length - (1 : Int).toNat) (List.drop (1 : Int).toNat (y :: r)) = r := List.take_of_length_le (by simp)
        have e3 : eB [y] ((0 : Int).toNat) = dint y := rfl
        rw [e1, e2, e3, h1]
        have e4 : std.bor .i64 dn (std.shl .i64 (std.wrap .i64 (std.band .u8 (dint y) 127)) ds) = bits7 dn (dint y) ds := rfl
        rw [e4]
        refine ⟨fun h2 => absurd (of_decide_eq_true h2) (by simp; omega), fun _ => ⟨⟨⟨by omega, by simp; omega⟩, trivial⟩, ⟨trivial, by omega, by simp; omega⟩, fun h3 => absurd h3 (by simp), fun _ => ⟨by simp, by omega, by simp, fun h9 => ?_, fun h9 => ?_⟩⟩⟩
        · have h9 : dint y < 128 := of_decide_eq_true h9
          rw [if_pos h9] at hg
          refine ⟨fun h10 => key _ _ _ ?_, fun h11 => ⟨by simp, fun h12 => ⟨fun h13 => key _ _ _ ?_, fun h14 => key _ _ _ ?_⟩, fun h15 => key _ _ _ ?_⟩⟩
          · rw [if_pos (.inl (of_decide_eq_true h10))] at hg; exact hg
          · have h12 : dint y = 0 := by simpa using h12
            rw [if_pos (.inr ⟨h12, of_decide_eq_true h13⟩)] at hg; exact hg
          · have h11 := of_decide_eq_false h11
            have h14 := of_decide_eq_false h14
            rw [if_neg (by omega)] at hg; exact hg
          · have h11 := of_decide_eq_false h11
            have h15 : ¬ dint y = 0 := by simpa using h15
            rw [if_neg (by omega)] at hg; exact hg
        · have h9 : ¬ dint y < 128 := of_decide_eq_false h9
          rw [if_neg h9] at hg
          refine ⟨by omega, ⟨_, _, _, _⟩, rfl, ?_, f, ?_, by omega, hg⟩
          · show (42 - (ds + 7)).toNat + 1 ≤ (42 - ds).toNat; omega
          · show ds + 7 = 42 - 7 * f; omega
  · have h := of_decide_eq_false h
    have e : f = 0 := by omega
    subst e
    exact hg
theorem rd_run (s : ByteArray) (hs : lenB s ≤ 4000000) : runP std (rdCon std stF) 60 noL (rdP std stF) 52 Try.f52 (s, ()) := by
  rw [rd_vc]
  have yes : rokF s = true → [Value.int .i64 (rd1 s).1, Value.int .i64 (rd2 s).1, Value.bool true] = [Value.int .i64 (rtokF s), Value.int .i64 (rrewF s), Value.bool (rokF s)] := fun h => by
    unfold rtokF rrewF; rw [h]; rfl
  have no : rokF s = false → [Value.int .i64 0, Value.int .i64 0, Value.bool false] = [Value.int .i64 (rtokF s), Value.int .i64 (rrewF s), Value.bool (rokF s)] := fun h => by
    unfold rtokF rrewF; rw [h]; rfl
  have hl : (std.svals s).length = lenB s := List.length_map ..
  refine ⟨by omega, ⟨trivial, ⟨trivial, ⟨fun h1 => no ?_, fun h2 => ⟨fun h3 => ⟨fun h4 => ⟨fun h5 => ⟨fun h6 => ⟨fun h7 => yes ?_, fun h8 => no ?_⟩, fun h9 => no ?_⟩, fun h10 => no ?_⟩, fun h11 => no ?_⟩, fun h12 => no ?_⟩⟩⟩⟩⟩
  all_goals unfold rokF
  · rw [show (rd2 s).2.2 = true from h1]; rfl
  · rw [show (rd2 s).2.2 = false from h2, show (((rd2 s).2.1.length : Int) == 0) = true from h3, show decide (0 ≤ (rd1 s).1) = true from h4, show decide ((rd1 s).1 ≤ 1073741824) = true from h5, show decide (0 ≤ (rd2 s).1) = true from h6, show decide ((rd2 s).1 ≤ 1073741824) = true from h7]; rfl
  · rw [show decide ((rd2 s).1 ≤ 1073741824) = false from h8]; simp
  · rw [show decide (0 ≤ (rd2 s).1) = false from h9]; simp
  · rw [show decide ((rd1 s).1 ≤ 1073741824) = false from h10]; simp
  · rw [show decide (0 ≤ (rd1 s).1) = false from h11]; simp
  · rw [show (((rd2 s).2.1.length : Int) == 0) = false from h12]; simp
theorem put2 (a b : Int) : numsF [.int .i64 a, .int .i64 b] = one1F a ++ one1F b := rfl
end Go.Proofs.Ytmhfnbbamoadgaa
end
section
namespace Go.Proofs.Ytmhfnbbamoadgaa
open Go.RowKit Go.Abs Go
theorem rcd_run (a b : Int) : runP std (rcdCon std stF) 60 noL (rcdP std stF) 10 Try.f10 (a, b, ()) := by
  rw [rcd_vc]
  have no : (isA a && isA b) = false → [Value.string ⟨#[]⟩] = [Value.string (rcdF a b)] := fun h => by
    unfold rcdF; rw [h]; rfl
  refine ⟨fun h1 => ⟨fun h2 => ⟨fun h3 => ⟨fun h4 => ⟨⟨?_, fun i9 h5 => ?_⟩, ?_⟩, fun h6 => no ?_⟩, fun h7 => no ?_⟩, fun h8 => no ?_⟩, fun h9 => no ?_⟩
  · show 2 ≤ 1000000; omega
  · have h1 := of_decide_eq_true h1; have h2 := of_decide_eq_true h2; have h3 := of_decide_eq_true h3; have h4 := of_decide_eq_true h4
    match i9, h5 with
    | 0, _ => show -9223372036854775808 ≤ a ∧ a ≤ 9223372036854775807; omega
    | 1, _ => show -9223372036854775808 ≤ b ∧ b ≤ 9223372036854775807; omega
    | n + 2, h => exact absurd h (by simp)
  · show [Value.string (recB a b)] = [Value.string (rcdF a b)]
    unfold rcdF isA
    rw [h1, h2, h3, h4]; rfl
  · unfold isA; rw [h6]; simp
  · unfold isA; rw [h7]; simp
  · unfold isA; rw [h8]; simp
  · unfold isA; rw [h9]; simp
theorem rput_run (k k' n : Int) (hn : 128 ≤ n → n / 128 ≤ k) : runP std (rputCon std stF k) 60 noL (rputP std stF k') 58 Try.f58 (n, ()) := by
  have e : runP std (rputCon std stF k) 60 noL (rputP std stF k') 58 Try.f58 (n, ()) = runP std (rputCon std stF k) 60 noL (rputP std stF k) 58 Try.f58 (n, ()) := rfl
  rw [e, rput_vc]
  have no : ¬ (0 ≤ n ∧ n ≤ 1099511627775) → [] = stF.rput n := fun h => by
    show [] = one1F n
    unfold one1F; rw [if_neg h]
  refine ⟨fun h1 => no ?_, fun h2 => ⟨fun h3 => no ?_, fun h4 => ⟨fun h5 => ?_, fun h6 => ?_⟩⟩⟩
  · have := of_decide_eq_true h1; omega
  · have := of_decide_eq_true h3; omega
  · have h2 := of_decide_eq_false h2; have h4 := of_decide_eq_false h4; have h5 := of_decide_eq_true h5
    show _ = one1F n
    rw [one1_step (by omega) (by omega), if_neg (by omega)]
  · have h2 := of_decide_eq_false h2; have h4 := of_decide_eq_false h4; have h6 := of_decide_eq_false h6
    have hl := one1_len (n / 128)
    rw [shr7']
    refine ⟨by omega, ⟨by omega, hn (by omega)⟩, ?_, ?_⟩
    · show (([_] ++ one1F (n / 128)).length) * 1 ≤ _
      rw [List.length_append]; simp only [List.length_cons, List.length_nil]; omega
    · show [_] ++ one1F (n / 128) = one1F n
      rw [one1_step (n := n) (by omega) (by omega), if_pos (by omega)]; rfl
theorem rrcd_run (k a b : Int) (ha : -9223372036854775808 ≤ a ∧ a ≤ 9223372036854775807) (hb : -9223372036854775808 ≤ b ∧ b ≤ 9223372036854775807) (hk : 9223372036854775807 ≤ k) : runP std (rputCon std stF k) 60 noL (rrcdP std stF) 37 Try.f37 (a, b, ()) := by
  rw [rrcd_vc]
  refine ⟨⟨ha, by omega⟩, ⟨hb, by omega⟩, ?_, rfl⟩
  have h1 := one1_len a
  have h2 := one1_len b
  show (one1F a ++ one1F b).length * 1 ≤ _
  rw [List.length_append]; omega
theorem svals_get (s : ByteArray) (i : Nat) : eB (std.svals s) i = std.sget s i := by
  show dint ((s.data.toList.map fun b => Value.int .u8 b.toNat).getD i (.int .u8 0)) = ((s.data.toList.getD i 0).toNat : Int)
  rw [List.getD_eq_getElem?_getD, List.getD_eq_getElem?_getD, List.getElem?_map]
  cases s.data.toList[i]? <;> rfl
theorem wrap_u64 {n : Int} (h : 0 ≤ n ∧ n < 18446744073709551616) : std.wrap .u64 n = n := by
  rw [wrapu]; omega
def nmI (s : ByteArray) (d : NmL) : Prop := ∃ i : Nat, d.i = i ∧ i ≤ 6 ∧ i ≤ lenB s ∧ 0 ≤ d.n ∧ d.n < 4398046511104 ∧ numG (6 - i) (7 * i) d.n ((std.svals s).drop i) false = rd1 s
theorem nm_run (s : ByteArray) (hs : lenB s ≤ 9223372036854775807) : runP std noCon 60 (nmLs s (nmI s) fun d => (6 - d.i).toNat) (nmP std stF) 59 Try.f59 (s, ()) := by
  rw [nm_vc]
  have hl : (std.svals s).length = lenB s := List.length_map ..
  have no : (rd1 s).2.2 = true → (rd1 s).1 = 0 → [Value.int .i64 0, Value.int .i64 0] = [Value.int .i64 (nvalF s), Value.int .i64 (nlenF s)] := fun h h0 => by
    unfold nvalF nlenF; rw [h, h0]; rfl
  have yes : ∀ (v : Int) (r : List Value) (j : Nat), rd1 s = (v, (std.svals s).drop j, false) → j ≤ lenB s → [Value.int .i64 v, Value.int .i64 (j : Int)] = [Value.int .i64 (nvalF s), Value.int .i64 (nlenF s)] := fun v r j h hj => by
    unfold nvalF nlenF
    rw [h]
    simp only [List.length_drop, hl]
    rw [if_neg Bool.false_ne_true, show (lenB s : Int) - ((lenB s - j : Nat) : Int) = j by omega]
  refine ⟨⟨0, 0⟩, rfl, ⟨0, rfl, by omega, by omega, by show (0 : Int) ≤ 0; omega, by show (0 : Int) < _; omega, rfl⟩, fun ⟨dn, di⟩ ⟨i, hi, h6, hle, n0, n1, hg⟩ => ?_⟩
  dsimp only at hi n0 n1 hg ⊢
  subst hi
  refine ⟨fun h2 => ⟨fun h3 => ?_, fun h14 => ?_⟩, fun h15 => ?_⟩
  · have h2 : (i : Int) < (lenB s : Int) := of_decide_eq_true h2
    have h3 := of_decide_eq_true h3
    have hlt : i < (std.svals s).length := by omega
    rw [show 6 - i = (6 - (i + 1)) + 1 by omega, List.drop_eq_getElem_cons hlt] at hg
    unfold numG at hg
    rw [if_neg Bool.false_ne_true] at hg
    simp only at hg
    have hy : dint (std.svals s)[i] = std.sget s i := by
      rw [← svals_get]; unfold eB; rw [List.getD_eq_getElem?_getD, List.getElem?_eq_getElem hlt]; rfl
    rw [hy] at hg
    rw [Int.toNat_natCast, wrap_u64 (n := 7 * (i : Int)) (by omega)]
    have e4 : std.bor .i64 dn (std.shl .i64 (std.wrap .i64 (std.band .u8 (std.sget s i) 127)) (7 * i)) = bits7 dn (std.sget s i) (7 * i) := rfl
    rw [e4]
    have hb := bits_nn (n := dn) (y := std.sget s i) (s := 7 * i) ⟨n0, n1⟩ (by omega)
    refine ⟨⟨by omega, h2⟩, by omega, by omega, ⟨by omega, h2⟩, fun h4 => ?_, fun h13 => ?_⟩
    · have h4 := of_decide_eq_true h4
      rw [if_pos h4] at hg
      refine ⟨fun h5 => ⟨⟨by omega, h2⟩, fun h6 => ?_, fun h7 => ⟨fun h8 => ?_, fun h9 => ⟨by omega, ?_⟩⟩⟩, fun h10 => ⟨fun h11 => ?_, fun h12 => ⟨by omega, ?_⟩⟩⟩
      · have h5 := of_decide_eq_true h5
        have h6 : std.sget s i = 0 := by simpa using h6
        rw [if_pos (.inr ⟨h6, by omega⟩)] at hg
        exact no (by rw [← hg]) (by rw [← hg])
      · rw [if_pos (.inl (of_decide_eq_true h8))] at hg
        exact no (by rw [← hg]) (by rw [← hg])
      · have h7 : ¬ std.sget s i = 0 := by simpa using h7
        have h9 := of_decide_eq_false h9
        rw [if_neg (by omega)] at hg
        exact yes _ [] (i + 1) hg.symm (by omega)
      · rw [if_pos (.inl (of_decide_eq_true h11))] at hg
        exact no (by rw [← hg]) (by rw [← hg])
      · have h10 := of_decide_eq_false h10
        have h12 := of_decide_eq_false h12
        rw [if_neg (by omega)] at hg
        exact yes _ [] (i + 1) hg.symm (by omega)
    · rw [if_neg (of_decide_eq_false h13)] at hg
      refine ⟨by omega, ⟨_, _⟩, rfl, ?_, i + 1, rfl, by omega, by omega, hb.1, hb.2, ?_⟩
      · show (6 - ((i : Int) + 1)).toNat + 1 ≤ (6 - (i : Int)).toNat; omega
      · rw [← hg, show (7 * ((i + 1 : Nat) : Int)) = 7 * (i : Int) + 7 by omega]; rfl
  · have h14 := of_decide_eq_false h14
    rw [show 6 - i = 0 by omega] at hg
    exact no (by rw [← hg]; rfl) (by rw [← hg]; rfl)
  · have h15 : ¬ (i : Int) < (lenB s : Int) := of_decide_eq_false h15
    rw [List.drop_eq_nil_of_le (by omega)] at hg
    cases h : 6 - i with
    | zero => rw [h] at hg; exact no (by rw [← hg]; rfl) (by rw [← hg]; rfl)
    | succ f => rw [h] at hg; exact no (by rw [← hg]; rfl) (by rw [← hg]; rfl)
/-- What is read of a part. -/
theorem svals_sub (s : ByteArray) (k : Nat) : std.svals (std.ssub s k (std.slen s)) = (std.svals s).drop k := by
  show ((s.data.toList.drop k).take (s.data.toList.length - k)).map _ = (s.data.toList.map _).drop k
  rw [List.take_of_length_le (by rw [List.length_drop]; omega), List.map_drop]
theorem rd1_spec (s : ByteArray) : 0 ≤ (rd1 s).1 ∧ (rd1 s).1 ≤ 1099511627775 ∧ ∃ k, (rd1 s).2.1 = (std.svals s).drop k ∧ k ≤ lenB s ∧ ((rd1 s).2.2 = false → 1 ≤ k) := by
  obtain ⟨h1, h2, k, h3, h4, h5⟩ := numG_nn 6 0 0 (std.svals s) false (by omega) (by omega) (by omega)
  have hl : (std.svals s).length = lenB s := List.length_map ..
  exact ⟨h1, h2, k, h3, by omega, h5⟩
theorem rd2_nn (s : ByteArray) : 0 ≤ (rd2 s).1 := (numG_nn 6 0 0 _ _ (by omega) (by omega) (by omega)).1
theorem numG_bad (xs : List Value) : numG 6 0 0 xs true = (0, xs, true) := rfl
theorem qrd_run (s : ByteArray) (hs : lenB s ≤ 9223372036854775807) : runP std (nmCon std stF) 60 noL (qrdP std stF) 42 Try.f42 (s, ()) := by
  rw [qrd_vc]
  have hl : (std.svals s).length = lenB s := List.length_map ..
  obtain ⟨a1, a2, k, a3, a4, a5⟩ := rd1_spec s
  have no : rokF s = false → [Value.int .i64 0, Value.int .i64 0, Value.bool false] = [Value.int .i64 (rtokF s), Value.int .i64 (rrewF s), Value.bool (rokF s)] := fun h => by
    unfold rtokF rrewF; rw [h]; rfl
  have yes : rokF s = true → [Value.int .i64 (rd1 s).1, Value.int .i64 (rd2 s).1, Value.bool true] = [Value.int .i64 (rtokF s), Value.int .i64 (rrewF s), Value.bool (rokF s)] := fun h => by
    unfold rtokF rrewF; rw [h]; rfl
  have hno2 : (rd1 s).2.2 = true → rokF s = false := fun h => by
    unfold rokF rd2; rw [h, numG_bad]; rfl
  cases hb : (rd1 s).2.2 with
  | true =>
    have e : stF.nlen s = 0 := by show nlenF s = 0; unfold nlenF; rw [hb]; rfl
    refine ⟨hs, fun _ => no (hno2 hb), fun h2 => ?_⟩
    rw [e] at h2; cases h2
  | false =>
    have k1 := a5 hb
    have e : stF.nlen s = (k : Int) := by
      show nlenF s = _
      unfold nlenF
      rw [hb, a3, List.length_drop, hl, if_neg Bool.false_ne_true]; omega
    have ev : stF.nval s = (rd1 s).1 := rfl
    rw [e, Int.toNat_natCast, ev]
    have hsub : std.svals (std.ssub s k (std.slen s)) = (rd1 s).2.1 := by rw [svals_sub, a3]
    have hd2 : rd1 (std.ssub s k (std.slen s)) = rd2 s := by unfold rd1 rd2; rw [hsub, hb]
    have hsl : lenB (std.ssub s k (std.slen s)) = lenB s - k := by
      have := congrArg List.length hsub
      rw [a3, List.length_drop, hl] at this
      rw [← this]; exact (List.length_map ..).symm
    generalize hsb : std.ssub s k (std.slen s) = s2 at hsub hd2 hsl ⊢
    obtain ⟨b1, b2, j, b3, b4, b5⟩ := rd1_spec s2
    rw [hd2] at b1 b2 b3 b5
    have hl2 : (std.svals s2).length = lenB s2 := List.length_map ..
    refine ⟨hs, fun h1 => absurd h1 (by simp; omega), fun _ => ⟨⟨trivial, by omega, by show (k : Int) ≤ (lenB s : Int); omega⟩, by show lenB s2 ≤ _; omega, ?_⟩⟩
    have ev2 : stF.nval s2 = (rd2 s).1 := by show (rd1 s2).1 = _; rw [hd2]
    rw [ev2]
    cases hb2 : (rd2 s).2.2 with
    | true =>
      have e2 : stF.nlen s2 = 0 := by show nlenF s2 = 0; unfold nlenF; rw [hd2, hb2]; rfl
      rw [e2]
      refine ⟨fun _ => no ?_, fun h => ?_⟩
      · unfold rokF; rw [hb2]; rfl
      · cases h
    | false =>
      have j1 := b5 hb2
      have e2 : stF.nlen s2 = (j : Int) := by
        show nlenF s2 = _
        unfold nlenF
        rw [hd2, hb2, b3, List.length_drop, hl2, if_neg Bool.false_ne_true]; omega
      rw [e2]
      have hrest : ((rd2 s).2.1.length : Int) = (lenB s : Int) - k - j := by rw [b3, List.length_drop, hl2, hsl]; omega
      refine ⟨fun h3 => absurd h3 (by simp; omega), fun _ => ⟨by omega, fun h5 => no ?_, fun h6 => ⟨fun h7 => no ?_, fun h8 => ⟨fun h9 => no ?_, fun h10 => yes ?_⟩⟩⟩⟩
      all_goals unfold rokF
      · have h5 : (!(((k : Int) + j) == (lenB s : Int))) = true := h5
        have : ((rd2 s).2.1.length : Int) ≠ 0 := by simp at h5; omega
        rw [show (((rd2 s).2.1.length : Int) == 0) = false by simpa using this]; simp
      · rw [show decide ((rd1 s).1 ≤ 1073741824) = false from decide_eq_false (by have := of_decide_eq_true h7; omega)]; simp
      · rw [show decide ((rd2 s).1 ≤ 1073741824) = false from decide_eq_false (by have := of_decide_eq_true h9; omega)]; simp
      · have h6 : (!(((k : Int) + j) == (lenB s : Int))) = false := h6
        have h8 := of_decide_eq_false h8
        have h10 := of_decide_eq_false h10
        have : ((rd2 s).2.1.length : Int) = 0 := by simp at h6; omega
        rw [hb2, this, decide_eq_true a1, decide_eq_true (show (rd1 s).1 ≤ 1073741824 by omega), decide_eq_true b1, decide_eq_true (show (rd2 s).1 ≤ 1073741824 by omega)]; rfl
theorem rtok_range (s : ByteArray) : 0 ≤ rtokF s ∧ rtokF s ≤ 1073741824 ∧ 0 ≤ rrewF s ∧ rrewF s ≤ 1073741824 := by
  unfold rtokF rrewF
  split
  · rename_i h
    unfold rokF at h
    simp only [Bool.and_eq_true, decide_eq_true_eq] at h
    omega
  · omega
theorem bkSum_range (xs : List Value) : ∀ i a, bkSumL xs i = some a → 0 ≤ a ∧ a ≤ i * 2147483648
  | 0, a, h => by cases h; omega
  | i + 1, a, h => by
    unfold bkSumL at h
    split at h
    · cases h
    · rename_i a0 h0
      have := bkSum_range xs i a0 h0
      have hr := rtok_range (vP xs i)
      split at h
      · split at h
        · cases h; omega
        · cases h
      · cases h; omega
def bckI (xs : List Value) (d : BkL) : Prop := d.n = xs.length ∧ ∃ i : Nat, d.i = i ∧ i ≤ xs.length ∧ bkSumL xs i = some d.a
theorem sum_none {xs : List Value} : ∀ {j i : Nat}, i ≤ j → bkSumL xs i = none → bkSumL xs j = none
  | 0, i, h, hn => by rw [show i = 0 by omega] at hn; exact hn
  | j + 1, i, h, hn => by
    by_cases e : i = j + 1
    · subst e; exact hn
    · have := sum_none (j := j) (i := i) (by omega) hn
      unfold bkSumL; rw [this]
theorem bck_core (xs : List Value) {d : BkL} (hI : bckI xs d) :
    (∀ {P : Prop}, d.i < d.n → (isF (kP xs d.i.toNat) = true → rokF (vP xs d.i.toNat) = true → bckI xs ⟨d.a + (rtokF (vP xs d.i.toNat) + rrewF (vP xs d.i.toNat)), d.n, d.i + 1⟩ → P) → (isF (kP xs d.i.toNat) = true → rokF (vP xs d.i.toNat) = false → bckF xs = 0 ∧ bokF xs = false → P) → (isF (kP xs d.i.toNat) = false → bckI xs ⟨d.a, d.n, d.i + 1⟩ → P) → P) ∧
    (¬ d.i < d.n → 0 ≤ d.a ∧ ((d.a ≤ 1073741824 ∧ bckF xs = d.a ∧ bokF xs = true) ∨ (¬ d.a ≤ 1073741824 ∧ bckF xs = 0 ∧ bokF xs = false))) := by
  obtain ⟨hn, i, hi, hle, hs⟩ := hI
  refine ⟨fun {P} h h1 h2 h3 => ?_, fun h => ?_⟩
  · have hlt : i < xs.length := by omega
    rw [show d.i.toNat = i by omega] at h1 h2 h3
    have hnx : bkSumL xs (i + 1) = if isF (kP xs i) then (if rokF (vP xs i) then some (d.a + (rtokF (vP xs i) + rrewF (vP xs i))) else none) else some d.a := by
      conv => lhs; unfold bkSumL
      rw [hs]
    cases hf : isF (kP xs i) with
    | false =>
      rw [hf, if_neg Bool.false_ne_true] at hnx
      exact h3 hf ⟨hn, i + 1, by show d.i + 1 = _; omega, hlt, hnx⟩
    | true =>
      rw [hf, if_pos rfl] at hnx
      cases hr : rokF (vP xs i) with
      | true =>
        rw [hr, if_pos rfl] at hnx
        exact h1 hf hr ⟨hn, i + 1, by show d.i + 1 = _; omega, hlt, hnx⟩
      | false =>
        rw [hr, if_neg Bool.false_ne_true] at hnx
        have := sum_none (j := xs.length) hlt hnx
        exact h2 hf hr (by unfold bckF bokF; rw [this]; exact ⟨rfl, rfl⟩)
  · have e : i = xs.length := by omega
    subst e
    have := bkSum_range xs _ _ hs
    refine ⟨this.1, ?_⟩
    unfold bckF bokF
    rw [hs]
    by_cases c : d.a ≤ 1073741824
    · left; exact ⟨c, if_pos c, decide_eq_true c⟩
    · right; exact ⟨c, if_neg c, decide_eq_false c⟩
end Go.Proofs.Ytmhfnbbamoadgaa
end
section
namespace Go.Proofs.Ytmhfnbbamoadgaa
open Go.RowKit Go.Abs Go
set_option maxRecDepth 100000
theorem is_key {k : ByteArray} : isF k = (decide ((2 : Int) ≤ (std.slen k : Int)) && std.seq (std.ssub k 0 2) ⟨#[115, 47]⟩) := rfl
theorem bck_run (xs : List Value) (hx : xs.length ≤ 1000000) (hv : ∀ i, i < xs.length → lenB (vP xs i) ≤ 4000000) : runP std (bckCon std stF) 60 (bckLs 39 xs (bckI xs) fun d => (d.n - d.i).toNat) (bckP std stF) 28 Try.f28 (xs, ()) := by
  rw [bck_vc]
  refine ⟨⟨0, xs.length, 0⟩, rfl, ⟨rfl, 0, rfl, Nat.zero_le _, rfl⟩, fun d hI => ?_⟩
  obtain ⟨c1, c2⟩ := bck_core xs hI
  obtain ⟨hn, i, hi, hle, hs⟩ := hI
  have hr := bkSum_range xs _ _ hs
  refine ⟨fun h => ?_, fun h9 => ?_⟩
  · have h := of_decide_eq_true h
    have hlt : i < xs.length := by omega
    have hvi := hv i hlt
    have ht := rtok_range (vP xs i)
    have e : d.i.toNat = i := by omega
    rw [e] at c1 ⊢
    have next : ∀ a : Int, bckI xs ⟨a, d.n, d.i + 1⟩ → (-9223372036854775808 ≤ d.i + 1 ∧ d.i + 1 ≤ 9223372036854775807) ∧ ∃ d' : BkL, [Filler.val (.int .i64 d'.a), .dl xs, .val (.int .i64 d'.n), .val (.int .i64 d'.i)] = [Filler.val (.int .i64 a), .dl xs, .val (.int .i64 d.n), .val (.int .i64 (d.i + 1))] ∧ Nat.le (Nat.succ (d'.n - d'.i).toNat) (d.n - d.i).toNat ∧ bckI xs d' := fun a ha => by
      refine ⟨by omega, ⟨a, d.n, d.i + 1⟩, rfl, ?_, ha⟩
      show (d.n - (d.i + 1)).toNat + 1 ≤ (d.n - d.i).toNat; omega
    have b0 : d.a ≤ 2147483648000000 := by omega
    refine ⟨by omega, fun h3 => ⟨⟨by have h3 : (2 : Int) ≤ (lenB (kP xs i) : Int) := of_decide_eq_true h3; exact ⟨by omega, h3⟩, trivial⟩, fun h4 => ⟨hvi, fun h5 => ⟨by show -9223372036854775808 ≤ rtokF (vP xs i) + rrewF (vP xs i) ∧ rtokF (vP xs i) + rrewF (vP xs i) ≤ _; omega, by show -9223372036854775808 ≤ d.a + (rtokF (vP xs i) + rrewF (vP xs i)) ∧ d.a + (rtokF (vP xs i) + rrewF (vP xs i)) ≤ _; omega, ?_⟩, fun h6 => ?_⟩, fun h7 => ?_⟩, fun h8 => ?_⟩
    · have hf : isF (kP xs i) = true := by rw [is_key, h3]; exact h4
      exact c1 h (fun _ _ h => next _ h) (fun _ h => absurd h (by rw [show rokF (vP xs i) = true from h5]; exact Bool.noConfusion)) fun h => absurd h (by rw [hf]; exact Bool.noConfusion)
    · have hf : isF (kP xs i) = true := by rw [is_key, h3]; exact h4
      refine c1 h (fun _ h => absurd h (by rw [show rokF (vP xs i) = false from h6]; exact Bool.noConfusion)) (fun _ _ ⟨h1, h2⟩ => ?_) fun h => absurd h (by rw [hf]; exact Bool.noConfusion)
      show _ = [Value.int .i64 (bckF xs), Value.bool (bokF xs)]
      rw [h1, h2]
    · have hf : isF (kP xs i) = false := by rw [is_key, h3]; exact h7
      exact c1 h (fun h => absurd h (by rw [hf]; exact Bool.noConfusion)) (fun h => absurd h (by rw [hf]; exact Bool.noConfusion)) fun _ h => next _ h
    · have hf : isF (kP xs i) = false := by rw [is_key, h8]; rfl
      exact c1 h (fun h => absurd h (by rw [hf]; exact Bool.noConfusion)) (fun h => absurd h (by rw [hf]; exact Bool.noConfusion)) fun _ h => next _ h
  · have h9 := of_decide_eq_false h9
    obtain ⟨p0, p1⟩ := c2 h9
    refine ⟨fun h10 => ⟨fun h11 => ?_, fun h12 => ?_⟩, fun h13 => absurd (of_decide_eq_false h13) (by omega)⟩
    · have h11 := of_decide_eq_true h11
      rcases p1 with ⟨_, h1, h2⟩ | ⟨h, _⟩
      · show _ = [Value.int .i64 (bckF xs), Value.bool (bokF xs)]; rw [h1, h2]
      · exact absurd h11 h
    · have h12 := of_decide_eq_false h12
      rcases p1 with ⟨h, _⟩ | ⟨_, h1, h2⟩
      · exact absurd h h12
      · show _ = [Value.int .i64 (bckF xs), Value.bool (bokF xs)]; rw [h1, h2]
theorem rbck_run (xs : List Value) (hx : xs.length ≤ 1000000) (hv : ∀ i, i < xs.length → lenB (vP xs i) ≤ 9223372036854775807) : runP std (rbckCon std stF) 60 (bckLs 38 xs (bckI xs) fun d => (d.n - d.i).toNat) (rbckP std stF) 21 Try.f21 (xs, ()) := by
  rw [rbck_vc]
  refine ⟨⟨0, xs.length, 0⟩, rfl, ⟨rfl, 0, rfl, Nat.zero_le _, rfl⟩, fun d hI => ?_⟩
  obtain ⟨c1, c2⟩ := bck_core xs hI
  obtain ⟨hn, i, hi, hle, hs⟩ := hI
  have hr := bkSum_range xs _ _ hs
  refine ⟨fun h => ?_, fun h9 => ?_⟩
  · have h := of_decide_eq_true h
    have hlt : i < xs.length := by omega
    have hvi := hv i hlt
    have ht := rtok_range (vP xs i)
    have e : d.i.toNat = i := by omega
    rw [e] at c1 ⊢
    have next : ∀ a b : Int, a = b → bckI xs ⟨b, d.n, d.i + 1⟩ → (-9223372036854775808 ≤ d.i + 1 ∧ d.i + 1 ≤ 9223372036854775807) ∧ ∃ d' : BkL, [Filler.val (.int .i64 d'.a), .dl xs, .val (.int .i64 d'.n), .val (.int .i64 d'.i)] = [Filler.val (.int .i64 a), .dl xs, .val (.int .i64 d.n), .val (.int .i64 (d.i + 1))] ∧ Nat.le (Nat.succ (d'.n - d'.i).toNat) (d.n - d.i).toNat ∧ bckI xs d' := fun a b hab ha => by
      subst hab
      refine ⟨by omega, ⟨a, d.n, d.i + 1⟩, rfl, ?_, ha⟩
      show (d.n - (d.i + 1)).toNat + 1 ≤ (d.n - d.i).toNat; omega
    have b0 : d.a ≤ 2147483648000000 := by omega
    refine ⟨by omega, fun h3 => ⟨⟨by have h3 : (2 : Int) ≤ (lenB (kP xs i) : Int) := of_decide_eq_true h3; exact ⟨by omega, h3⟩, trivial⟩, fun h4 => ⟨hvi, fun h5 => ⟨by show -9223372036854775808 ≤ d.a + rtokF (vP xs i) ∧ d.a + rtokF (vP xs i) ≤ _; omega, by show -9223372036854775808 ≤ d.a + rtokF (vP xs i) + rrewF (vP xs i) ∧ d.a + rtokF (vP xs i) + rrewF (vP xs i) ≤ _; omega, ?_⟩, fun h6 => ?_⟩, fun h7 => ?_⟩, fun h8 => ?_⟩
    · have hf : isF (kP xs i) = true := by rw [is_key, h3]; exact h4
      exact c1 h (fun _ _ h => next _ _ (by show d.a + rtokF (vP xs i) + rrewF (vP xs i) = _; omega) h) (fun _ h => absurd h (by rw [show rokF (vP xs i) = true from h5]; exact Bool.noConfusion)) fun h => absurd h (by rw [hf]; exact Bool.noConfusion)
    · have hf : isF (kP xs i) = true := by rw [is_key, h3]; exact h4
      refine c1 h (fun _ h => absurd h (by rw [show rokF (vP xs i) = false from h6]; exact Bool.noConfusion)) (fun _ _ ⟨h1, h2⟩ => ?_) fun h => absurd h (by rw [hf]; exact Bool.noConfusion)
      show _ = [Value.int .i64 (bckF xs), Value.bool (bokF xs)]
      rw [h1, h2]
    · have hf : isF (kP xs i) = false := by rw [is_key, h3]; exact h7
      exact c1 h (fun h => absurd h (by rw [hf]; exact Bool.noConfusion)) (fun h => absurd h (by rw [hf]; exact Bool.noConfusion)) fun _ h => next _ _ rfl h
    · have hf : isF (kP xs i) = false := by rw [is_key, h8]; rfl
      exact c1 h (fun h => absurd h (by rw [hf]; exact Bool.noConfusion)) (fun h => absurd h (by rw [hf]; exact Bool.noConfusion)) fun _ h => next _ _ rfl h
  · have h9 := of_decide_eq_false h9
    obtain ⟨p0, p1⟩ := c2 h9
    refine ⟨fun h10 => ?_, fun h11 => ?_⟩
    · have h10 := of_decide_eq_true h10
      rcases p1 with ⟨h, _⟩ | ⟨_, h1, h2⟩
      · omega
      · show _ = [Value.int .i64 (bckF xs), Value.bool (bokF xs)]; rw [h1, h2]
    · have h11 := of_decide_eq_false h11
      rcases p1 with ⟨_, h1, h2⟩ | ⟨h, _⟩
      · show _ = [Value.int .i64 (bckF xs), Value.bool (bokF xs)]; rw [h1, h2]
      · omega
/-- They keep what is said of them. -/
theorem one1_ok : PFOk Try.prog 57 (one1P std stF) :=
  pf_ok (LS := fun d => oneLs (oneI d.1) fun e => e.n.toNat) Try.progOk (noCon_ok _) (inCallF_ok 60) (one1P std stF) Try.func57 (show _ = some (bodyS Try.prog 57) by kernel_rfl) fun d _ => one1_run d.1
theorem putCon_ok : ConOk Try.prog (putCon std stF) := conL_ok fun x hx => by rw [List.mem_singleton.1 hx]; exact pcon_ok one1_ok
theorem put_ok : PFOk Try.prog 36 (putP std stF) :=
  pf_ok (LS := fun d => putLs d.1 (fun e => e.n = d.1.length ∧ ∃ i : Nat, e.i = i ∧ i ≤ d.1.length ∧ e.r = numsL d.1 i) fun e => (e.n - e.i).toNat) Try.progOk putCon_ok (inCallF_ok 60) (putP std stF) Try.func36 (show _ = some (bodyS Try.prog 36) by kernel_rfl) fun d hd => put_run d.1 hd.1 hd.2
theorem read_ok : OFOk Try.prog 64 (readO std) :=
  of_ok (LS := fun _ => noL) Try.progOk (noCon_ok _) (inCallF_ok 60) (readO std) Try.func64 (show _ = some (bodyS Try.prog 64) by kernel_rfl) (by decide) rfl fun d hd => read_run d.1 hd
theorem num_ok : OFOk Try.prog 65 (numO stF) :=
  of_ok (LS := fun d => numLs (numI d.1 d.2.1) fun e => (42 - e.s).toNat) Try.progOk (noCon_ok _) (inCallF_ok 60) (numO stF) Try.func65 (show _ = some (bodyS Try.prog 65) by kernel_rfl) (by decide) rfl fun d _ => num_run d.1 d.2.1
theorem rdCon_ok : ConOk Try.prog (rdCon std stF) := conL_ok fun x hx => by
  simp only [List.mem_cons, List.not_mem_nil, or_false] at hx
  rcases hx with rfl | rfl
  · exact read_ok.sem
  · exact num_ok.sem
theorem rd_ok : PFOk Try.prog 52 (rdP std stF) :=
  pf_ok (LS := fun _ => noL) Try.progOk rdCon_ok (inCallF_ok 60) (rdP std stF) Try.func52 (show _ = some (bodyS Try.prog 52) by kernel_rfl) fun d hd => rd_run d.1 hd
theorem rcdCon_ok : ConOk Try.prog (rcdCon std stF) := conL_ok fun x hx => by rw [List.mem_singleton.1 hx]; exact pcon_ok put_ok
theorem rcd_ok : PFOk Try.prog 10 (rcdP std stF) :=
  pf_ok (LS := fun _ => noL) Try.progOk rcdCon_ok (inCallF_ok 60) (rcdP std stF) Try.func10 (show _ = some (bodyS Try.prog 10) by kernel_rfl) fun d _ => rcd_run d.1 d.2.1
theorem bckCon_ok : ConOk Try.prog (bckCon std stF) := conL_ok fun x hx => by rw [List.mem_singleton.1 hx]; exact pcon_ok rd_ok
theorem bck_ok : PFOk Try.prog 28 (bckP std stF) :=
  pf_ok (LS := fun d => bckLs 39 d.1 (bckI d.1) fun e => (e.n - e.i).toNat) Try.progOk bckCon_ok (inCallF_ok 60) (bckP std stF) Try.func28 (show _ = some (bodyS Try.prog 28) by kernel_rfl) fun d hd => bck_run d.1 hd.1 hd.2
theorem rput_none : PFOk Try.prog 58 (rputP std stF (-9223372036854775809)) :=
  ⟨fun _ _ _ hpre => absurd hpre fun h => by
    have h1 : -9223372036854775808 ≤ _ := h.1.1
    have h2 : _ ≤ -9223372036854775809 := h.2
    omega⟩
theorem rputCon_ok {k : Int} (h : PFOk Try.prog 58 (rputP std stF k)) : ConOk Try.prog (rputCon std stF k) := conL_ok fun x hx => by rw [List.mem_singleton.1 hx]; exact pcon_ok h
theorem rput_step {k k' : Int} (h : PFOk Try.prog 58 (rputP std stF k)) (hk : ∀ n, n ≤ k' → 128 ≤ n → n / 128 ≤ k) : PFOk Try.prog 58 (rputP std stF k') :=
  pf_ok (LS := fun _ => noL) Try.progOk (rputCon_ok h) (inCallF_ok 60) (rputP std stF k') Try.func58 (show _ = some (bodyS Try.prog 58) by kernel_rfl) fun d hd => rput_run k k' d.1 (hk d.1 hd.2)
theorem rput_small : ∀ k : Nat, PFOk Try.prog 58 (rputP std stF (128 ^ k : Nat))
  | 0 => rput_step rput_none fun n h1 h2 => by simp at h1; omega
  | k + 1 => rput_step (rput_small k) fun n h1 h2 => by
    have : ((128 ^ (k + 1) : Nat) : Int) = ((128 ^ k : Nat) : Int) * 128 := by rw [Nat.pow_succ]; push_cast; rfl
    omega
theorem rput_ok : PFOk Try.prog 58 (rputP std stF 9223372036854775808) := rput_small 9
theorem rrcd_ok : PFOk Try.prog 37 (rrcdP std stF) :=
  pf_ok (LS := fun _ => noL) Try.progOk (rputCon_ok rput_ok) (inCallF_ok 60) (rrcdP std stF) Try.func37 (show _ = some (bodyS Try.prog 37) by kernel_rfl) fun d hd => rrcd_run _ d.1 d.2.1 hd.1 hd.2 (by omega)
theorem nm_ok : PFOk Try.prog 59 (nmP std stF) :=
  pf_ok (LS := fun d => nmLs d.1 (nmI d.1) fun e => (6 - e.i).toNat) Try.progOk (noCon_ok _) (inCallF_ok 60) (nmP std stF) Try.func59 (show _ = some (bodyS Try.prog 59) by kernel_rfl) fun d hd => nm_run d.1 hd
theorem nmCon_ok : ConOk Try.prog (nmCon std stF) := conL_ok fun x hx => by rw [List.mem_singleton.1 hx]; exact pcon_ok nm_ok
theorem qrd_ok : PFOk Try.prog 42 (qrdP std stF) :=
  pf_ok (LS := fun _ => noL) Try.progOk nmCon_ok (inCallF_ok 60) (qrdP std stF) Try.func42 (show _ = some (bodyS Try.prog 42) by kernel_rfl) fun d hd => qrd_run d.1 hd
theorem rbckCon_ok : ConOk Try.prog (rbckCon std stF) := conL_ok fun x hx => by rw [List.mem_singleton.1 hx]; exact pcon_ok qrd_ok
theorem rbck_ok : PFOk Try.prog 21 (rbckP std stF) :=
  pf_ok (LS := fun d => bckLs 38 d.1 (bckI d.1) fun e => (e.n - e.i).toNat) Try.progOk rbckCon_ok (inCallF_ok 60) (rbckP std stF) Try.func21 (show _ = some (bodyS Try.prog 21) by kernel_rfl) fun d hd => rbck_run d.1 hd.1 hd.2
/-- Numbers come back. -/
theorem byte_more {m : Nat} (hm : m ≤ 1099511627775) : std.wrap .u8 (std.bor .i64 (std.band .i64 (m : Int) 127) 128) = ((m % 128 + 128 : Nat) : Int) := by
  have h1 : std.band .i64 (m : Int) 127 = ((m % 128 : Nat) : Int) := by
    show IntKind.wrap .i64 (((BitVec.ofInt 64 (m : Int)) &&& (BitVec.ofInt 64 ((127 : Nat) : Int))).toNat : Int) = _
    rw [BitVec.toNat_and, ofInt_nat, ofInt_nat, show 127 % 2 ^ 64 = 2 ^ 7 - 1 from rfl, Nat.and_two_pow_sub_one_eq_mod, Nat.mod_eq_of_lt (show m < 2 ^ 64 by omega)]
    exact wrap_i64 (by omega)
  rw [h1, show (128 : Int) = ((128 : Nat) : Int) from rfl, bor_nat (by omega) (by omega)]
  have h2 : m % 128 ||| 128 = 128 + m % 128 := by
    have := Nat.shiftLeft_add_eq_or_of_lt (b := m % 128) (i := 7) (by omega) 1
    rw [show 1 <<< 7 = 128 from rfl] at this
    rw [Nat.or_comm, ← this]
  rw [h2]
  show ((128 + m % 128 : Nat) : Int) % 256 = _
  omega
theorem bits_add {n z k : Nat} {y : Int} (hn : n < 2 ^ k) (hy : std.band .u8 y 127 = z) (hz : z < 128) (hk : k ≤ 35) : bits7 n y k = ((n + z * 2 ^ k : Nat) : Int) := by
  have h35 : 2 ^ k ≤ 2 ^ 35 := Nat.pow_le_pow_right (by omega) hk
  rw [(bits_nat (by omega) hy hz hk).1]
  have := Nat.shiftLeft_add_eq_or_of_lt hn z
  rw [Nat.shiftLeft_eq] at this
  rw [Nat.or_comm, ← this, Nat.add_comm]
theorem num_back : ∀ (f k n m : Nat) (rest : List Value), k + 7 * f ≤ 42 → n < 2 ^ k → m < 128 ^ f → (0 < m ∨ k = 0) → n + m * 2 ^ k ≤ 1099511627775 → 0 < f → numG f k n (oneL f m ++ rest) false = (((n + m * 2 ^ k : Nat) : Int), rest, false)
  | 0, _, _, _, _, _, _, _, _, _, h => absurd h (by omega)
  | f + 1, k, n, m, rest, hk, hn, hm, hp, ht, _ => by
    unfold oneL numG
    rw [if_neg Bool.false_ne_true]
    by_cases c : 127 < (m : Int)
    · rw [if_pos c]
      have hmm : m ≤ 1099511627775 := by
        have : m ≤ m * 2 ^ k := Nat.le_mul_of_pos_right _ (Nat.two_pow_pos k)
        omega
      rw [byte_more hmm]
      simp only [List.cons_append]
      have hd : dint (.int .u8 ((m % 128 + 128 : Nat) : Int)) = ((m % 128 + 128 : Nat) : Int) := rfl
      rw [hd, if_neg (by omega)]
      have hy : std.band .u8 ((m % 128 + 128 : Nat) : Int) 127 = ((m % 128 : Nat) : Int) := by rw [band8]; congr 1; omega
      have hf : 0 < f := by
        rcases Nat.eq_zero_or_pos f with e | e
        · subst e; simp at hm; omega
        · exact e
      rw [bits_add hn hy (by omega) (by omega), shr7', show (m : Int) / 128 = ((m / 128 : Nat) : Int) by omega, show (k : Int) + 7 = ((k + 7 : Nat) : Int) by omega]
      have e2 : 2 ^ (k + 7) = 128 * 2 ^ k := by rw [Nat.pow_add, Nat.mul_comm]
      have hsum : n + m % 128 * 2 ^ k + m / 128 * 2 ^ (k + 7) = n + m * 2 ^ k := by
        rw [e2, ← Nat.mul_assoc, Nat.mul_comm (m / 128) 128, Nat.add_assoc, ← Nat.add_mul]
        congr 2; omega
      rw [num_back f (k + 7) (n + m % 128 * 2 ^ k) (m / 128) rest (by omega) ?_ ?_ (.inl (by omega)) (by omega) hf, hsum]
      · rw [e2]
        have : m % 128 * 2 ^ k ≤ 127 * 2 ^ k := Nat.mul_le_mul_right _ (by omega)
        omega
      · rw [Nat.pow_succ] at hm; omega
    · rw [if_neg c]
      simp only [List.cons_append, List.nil_append]
      have hw : std.wrap .u8 (m : Int) = (m : Int) := by show (m : Int) % 256 = _; omega
      rw [hw]
      have hd : dint (.int .u8 (m : Int)) = (m : Int) := rfl
      have hy : std.band .u8 (m : Int) 127 = ((m : Nat) : Int) := by rw [band8]; congr 1; omega
      rw [hd, if_pos (by omega), bits_add hn hy (by omega) (by omega), if_neg]
      rintro (h | ⟨h1, h2⟩)
      · omega
      · rcases hp with h | h <;> omega
theorem num_one {m : Int} (h0 : 0 ≤ m) (h1 : m ≤ 1099511627775) (rest : List Value) : numG 6 0 0 (one1F m ++ rest) false = (m, rest, false) := by
  rw [one1_pos h0 h1, oneL_more 6 5 m h0 (by omega) (by omega)]
  have := num_back 6 0 0 m.toNat rest (by omega) (by omega) (by omega) (.inr rfl) (by omega) (by omega)
  rw [show ((m.toNat : Nat) : Int) = m by omega, Nat.zero_add, Nat.pow_zero, Nat.mul_one, show ((m.toNat : Nat) : Int) = m by omega] at this
  exact this
theorem u8_ints {l : List Value} (h : ∀ x ∈ l, ∃ b : UInt8, x = .int .u8 b.toNat) : std.svals (std.sof (std.ints l)) = l := by
  show ((l.map dint).map fun n => UInt8.ofNat n.toNat).toArray.toList.map (fun b : UInt8 => Value.int .u8 b.toNat) = l
  rw [List.toList_toArray, List.map_map, List.map_map]
  conv => rhs; rw [← List.map_id l]
  refine List.map_congr_left fun x hx => ?_
  obtain ⟨b, rfl⟩ := h x hx
  show Value.int .u8 (((UInt8.ofNat ((b.toNat : Int)).toNat).toNat : Nat) : Int) = _
  rw [Int.toNat_natCast, UInt8.ofNat_toNat]; rfl
theorem wrap8_byte (n : Int) : ∃ b : UInt8, std.wrap .u8 n = b.toNat := by
  refine ⟨UInt8.ofNat (n % 256).toNat, ?_⟩
  show n % 256 = _
  rw [UInt8.toNat_ofNat']
  omega
theorem oneL_bytes : ∀ (f : Nat) (n : Int), ∀ x ∈ oneL f n, ∃ b : UInt8, x = .int .u8 b.toNat
  | 0, n, x, h => by simp [oneL] at h
  | f + 1, n, x, h => by
    unfold oneL at h
    split at h
    · rcases List.mem_cons.1 h with rfl | h
      · obtain ⟨b, e⟩ := wrap8_byte (std.bor .i64 (std.band .i64 n 127) 128); exact ⟨b, by rw [e]⟩
      · exact oneL_bytes f _ x h
    · rw [List.mem_singleton.1 h]
      obtain ⟨b, e⟩ := wrap8_byte n; exact ⟨b, by rw [e]⟩
theorem one1_bytes (n : Int) : ∀ x ∈ one1F n, ∃ b : UInt8, x = .int .u8 b.toNat := by
  unfold one1F
  split
  · exact oneL_bytes 7 n
  · intro x hx; cases hx
theorem recB_svals (a b : Int) : std.svals (recB a b) = one1F a ++ one1F b :=
  u8_ints fun x hx => by
    rcases List.mem_append.1 hx with h | h
    · exact one1_bytes a x h
    · exact one1_bytes b x h
theorem recB_len (a b : Int) : lenB (recB a b) ≤ 14 := by
  have h := congrArg List.length (recB_svals a b)
  have h1 := one1_len a
  have h2 := one1_len b
  rw [List.length_append] at h
  have h3 : (std.svals (recB a b)).length = lenB (recB a b) := List.length_map ..
  omega
/-- A record read. -/
theorem rec_back {a b : Int} (ha : 0 ≤ a ∧ a ≤ 1099511627775) (hb : 0 ≤ b ∧ b ≤ 1099511627775) : rokF (recB a b) = (isA a && isA b) ∧ (isA a = true → isA b = true → rtokF (recB a b) = a ∧ rrewF (recB a b) = b) := by
  have e1 : rd1 (recB a b) = (a, one1F b, false) := by
    unfold rd1
    rw [recB_svals, num_one ha.1 ha.2]
  have e2 : rd2 (recB a b) = (b, [], false) := by
    unfold rd2
    rw [e1]
    have := num_one hb.1 hb.2 []
    rw [List.append_nil] at this
    exact this
  have hok : rokF (recB a b) = (isA a && isA b) := by
    unfold rokF isA
    rw [e1, e2]
    simp [ha.1, hb.1]
  refine ⟨hok, fun h1 h2 => ?_⟩
  unfold rtokF rrewF
  rw [hok, h1, h2, e1, e2]
  exact ⟨rfl, rfl⟩
theorem rok_none : rokF noB = false ∧ rtokF noB = 0 ∧ rrewF noB = 0 := ⟨rfl, rfl, rfl⟩
end Go.Proofs.Ytmhfnbbamoadgaa
end
section
namespace Go.Proofs.Ytmhfnbbamoadgaa
open Go.Abs Go
set_option maxRecDepth 100000
def tailP (g : KvF) (xs ps : List Value) (I : PlL → Prop) (m : PlL → Nat) (dd : PlL) (PA PB : List Value) : Prop :=
  (((List.length PA) ≤ 1000000) ∧ ((((g.fd PA (g.key (eI xs (Int.toNat (dd.i))))) = true) → (((List.length PB) ≤ 1000000) ∧ ((((decide ((g.rfirst PB (g.key (eI xs (Int.toNat (dd.i))))) < ((List.length PB) : Int))) = true) → ((((0 : Int) ≤ (g.rfirst PB (g.key (eI xs (Int.toNat (dd.i)))))) ∧ ((g.rfirst PB (g.key (eI xs (Int.toNat (dd.i))))) < ((List.length PB) : Int))) ∧ ((((std.seq (kP PB (Int.toNat (g.rfirst PB (g.key (eI xs (Int.toNat (dd.i))))))) (g.key (eI xs (Int.toNat (dd.i))))) = true) → (((List.length PA) ≤ 1000000) ∧ ((((g.same PA PB) = true) → (((List.length PA) ≤ 1000000) ∧ ((((g.right PA) = true) → ((((0 : Int) ≤ (g.rfirst PB (g.key (eI xs (Int.toNat (dd.i)))))) ∧ ((g.rfirst PB (g.key (eI xs (Int.toNat (dd.i))))) < ((List.length PB) : Int))) ∧ ((((!(std.seq (g.get PA (g.key (eI xs (Int.toNat (dd.i))))) (vP PB (Int.toNat (g.rfirst PB (g.key (eI xs (Int.toNat (dd.i))))))))) = true) → ([(Value.bool false)] = [(Value.bool true)])) ∧ (((!(std.seq (g.get PA (g.key (eI xs (Int.toNat (dd.i))))) (vP PB (Int.toNat (g.rfirst PB (g.key (eI xs (Int.toNat (dd.i))))))))) = false) → (((List.length (dd.a)) ≤ 1000000) ∧ ((((g.same (dd.a) (dd.a)) = true) → (((List.length PA) ≤ 1000000) ∧ ((((!((g.bs PA (g.key (eI xs (Int.toNat (dd.i))))) == (g.rfirst PB (g.key (eI xs (Int.toNat (dd.i))))))) = true) → ([(Value.bool false)] = [(Value.bool true)])) ∧ (((!((g.bs PA (g.key (eI xs (Int.toNat (dd.i))))) == (g.rfirst PB (g.key (eI xs (Int.toNat (dd.i))))))) = false) → ((((-9223372036854775808 : Int) ≤ ((dd.i) + (1 : Int))) ∧ (((dd.i) + (1 : Int)) ≤ (9223372036854775807 : Int))) ∧ (∃ (ee : PlL), (([(Filler.dl xs), (Filler.dl ps), (Filler.dl (ee.a)), (Filler.dl (ee.b)), (Filler.val (Value.int IntKind.i64 (ee.i)))] = [(Filler.dl xs), (Filler.dl ps), (Filler.dl PA), (Filler.dl PB), (Filler.val (Value.int IntKind.i64 ((dd.i) + (1 : Int))))]) ∧ ((Nat.le (Nat.succ (m ee)) (m dd)) ∧ (I ee))))))))) ∧ (((g.same (dd.a) (dd.a)) = false) → ([(Value.bool false)] = [(Value.bool true)])))))))) ∧ (((g.right PA) = false) → ([(Value.bool false)] = [(Value.bool true)]))))) ∧ (((g.same PA PB) = false) → ([(Value.bool false)] = [(Value.bool true)]))))) ∧ (((std.seq (kP PB (Int.toNat (g.rfirst PB (g.key (eI xs (Int.toNat (dd.i))))))) (g.key (eI xs (Int.toNat (dd.i))))) = false) → (((List.length PA) ≤ 1000000) ∧ ((((g.same PA PB) = true) → (((List.length PA) ≤ 1000000) ∧ ((((g.right PA) = true) → ([(Value.bool false)] = [(Value.bool true)])) ∧ (((g.right PA) = false) → ([(Value.bool false)] = [(Value.bool true)]))))) ∧ (((g.same PA PB) = false) → ([(Value.bool false)] = [(Value.bool true)])))))))) ∧ (((decide ((g.rfirst PB (g.key (eI xs (Int.toNat (dd.i))))) < ((List.length PB) : Int))) = false) → (((List.length PA) ≤ 1000000) ∧ ((((g.same PA PB) = true) → (((List.length PA) ≤ 1000000) ∧ ((((g.right PA) = true) → ([(Value.bool false)] = [(Value.bool true)])) ∧ (((g.right PA) = false) → ([(Value.bool false)] = [(Value.bool true)]))))) ∧ (((g.same PA PB) = false) → ([(Value.bool false)] = [(Value.bool true)])))))))) ∧ (((g.fd PA (g.key (eI xs (Int.toNat (dd.i))))) = false) → (((List.length PB) ≤ 1000000) ∧ ((((decide ((g.rfirst PB (g.key (eI xs (Int.toNat (dd.i))))) < ((List.length PB) : Int))) = true) → ((((0 : Int) ≤ (g.rfirst PB (g.key (eI xs (Int.toNat (dd.i)))))) ∧ ((g.rfirst PB (g.key (eI xs (Int.toNat (dd.i))))) < ((List.length PB) : Int))) ∧ ((((std.seq (kP PB (Int.toNat (g.rfirst PB (g.key (eI xs (Int.toNat (dd.i))))))) (g.key (eI xs (Int.toNat (dd.i))))) = true) → (((List.length PA) ≤ 1000000) ∧ ((((g.same PA PB) = true) → (((List.length PA) ≤ 1000000) ∧ ((((g.right PA) = true) → ([(Value.bool false)] = [(Value.bool true)])) ∧ (((g.right PA) = false) → ([(Value.bool false)] = [(Value.bool true)]))))) ∧ (((g.same PA PB) = false) → ([(Value.bool false)] = [(Value.bool true)]))))) ∧ (((std.seq (kP PB (Int.toNat (g.rfirst PB (g.key (eI xs (Int.toNat (dd.i))))))) (g.key (eI xs (Int.toNat (dd.i))))) = false) → (((List.length PA) ≤ 1000000) ∧ ((((g.same PA PB) = true) → (((List.length PA) ≤ 1000000) ∧ ((((g.right PA) = true) → ((((!(std.seq (g.get PA (g.key (eI xs (Int.toNat (dd.i))))) (ByteArray.mk (Array.mk [])))) = true) → ([(Value.bool false)] = [(Value.bool true)])) ∧ (((!(std.seq (g.get PA (g.key (eI xs (Int.toNat (dd.i))))) (ByteArray.mk (Array.mk [])))) = false) → (((List.length (dd.a)) ≤ 1000000) ∧ ((((g.same (dd.a) (dd.a)) = true) → (((List.length PA) ≤ 1000000) ∧ ((((!((g.bs PA (g.key (eI xs (Int.toNat (dd.i))))) == (g.rfirst PB (g.key (eI xs (Int.toNat (dd.i))))))) = true) → ([(Value.bool false)] = [(Value.bool true)])) ∧ (((!((g.bs PA (g.key (eI xs (Int.toNat (dd.i))))) == (g.rfirst PB (g.key (eI xs (Int.toNat (dd.i))))))) = false) → ((((-9223372036854775808 : Int) ≤ ((dd.i) + (1 : Int))) ∧ (((dd.i) + (1 : Int)) ≤ (9223372036854775807 : Int))) ∧ (∃ (ee : PlL), (([(Filler.dl xs), (Filler.dl ps), (Filler.dl (ee.a)), (Filler.dl (ee.b)), (Filler.val (Value.int IntKind.i64 (ee.i)))] = [(Filler.dl xs), (Filler.dl ps), (Filler.dl PA), (Filler.dl PB), (Filler.val (Value.int IntKind.i64 ((dd.i) + (1 : Int))))]) ∧ ((Nat.le (Nat.succ (m ee)) (m dd)) ∧ (I ee))))))))) ∧ (((g.same (dd.a) (dd.a)) = false) → ([(Value.bool false)] = [(Value.bool true)]))))))) ∧ (((g.right PA) = false) → ([(Value.bool false)] = [(Value.bool true)]))))) ∧ (((g.same PA PB) = false) → ([(Value.bool false)] = [(Value.bool true)])))))))) ∧ (((decide ((g.rfirst PB (g.key (eI xs (Int.toNat (dd.i))))) < ((List.length PB) : Int))) = false) → (((List.length PA) ≤ 1000000) ∧ ((((g.same PA PB) = true) → (((List.length PA) ≤ 1000000) ∧ ((((g.right PA) = true) → ((((!(std.seq (g.get PA (g.key (eI xs (Int.toNat (dd.i))))) (ByteArray.mk (Array.mk [])))) = true) → ([(Value.bool false)] = [(Value.bool true)])) ∧ (((!(std.seq (g.get PA (g.key (eI xs (Int.toNat (dd.i))))) (ByteArray.mk (Array.mk [])))) = false) → (((List.length (dd.a)) ≤ 1000000) ∧ ((((g.same (dd.a) (dd.a)) = true) → (((List.length PA) ≤ 1000000) ∧ ((((!((g.bs PA (g.key (eI xs (Int.toNat (dd.i))))) == (g.rfirst PB (g.key (eI xs (Int.toNat (dd.i))))))) = true) → ([(Value.bool false)] = [(Value.bool true)])) ∧ (((!((g.bs PA (g.key (eI xs (Int.toNat (dd.i))))) == (g.rfirst PB (g.key (eI xs (Int.toNat (dd.i))))))) = false) → ((((-9223372036854775808 : Int) ≤ ((dd.i) + (1 : Int))) ∧ (((dd.i) + (1 : Int)) ≤ (9223372036854775807 : Int))) ∧ (∃ (ee : PlL), (([(Filler.dl xs), (Filler.dl ps), (Filler.dl (ee.a)), (Filler.dl (ee.b)), (Filler.val (Value.int IntKind.i64 (ee.i)))] = [(Filler.dl xs), (Filler.dl ps), (Filler.dl PA), (Filler.dl PB), (Filler.val (Value.int IntKind.i64 ((dd.i) + (1 : Int))))]) ∧ ((Nat.le (Nat.succ (m ee)) (m dd)) ∧ (I ee))))))))) ∧ (((g.same (dd.a) (dd.a)) = false) → ([(Value.bool false)] = [(Value.bool true)]))))))) ∧ (((g.right PA) = false) → ([(Value.bool false)] = [(Value.bool true)]))))) ∧ (((g.same PA PB) = false) → ([(Value.bool false)] = [(Value.bool true)]))))))))))
def bodyP (g : KvF) (xs ps : List Value) (I : PlL → Prop) (m : PlL → Nat) (dd : PlL) (PA PB : ByteArray) : Prop :=
  ((((List.length (dd.a)) * 32) ≤ 140737488355328) ∧ ((((0 : Int) ≤ (dd.i)) ∧ ((dd.i) < ((List.length xs) : Int))) ∧ (((0 : Int) < (5 : Int)) ∧ (((((std.rem (eI xs (Int.toNat (dd.i))) (5 : Int)) == (4 : Int)) = true) → (((List.length (dd.a)) ≤ 1000000) ∧ (((List.length (dd.b)) ≤ 1000000) ∧ (tailP g xs ps I m dd (g.del (dd.a) (g.key (eI xs (Int.toNat (dd.i))))) (g.rdel (dd.b) (g.key (eI xs (Int.toNat (dd.i))))))))) ∧ ((((std.rem (eI xs (Int.toNat (dd.i))) (5 : Int)) == (4 : Int)) = false) → (((List.length (dd.a)) ≤ 1000000) ∧ ((((g.setok (dd.a) PA PB) = true) → (True ∧ ((((g.rmay PA PB) = true) → (((List.length (dd.b)) ≤ 1000000) ∧ ((((decide ((30 : Int) < ((List.length (g.rset (dd.b) PA PB)) : Int))) = true) → ([(Value.bool false)] = [(Value.bool true)])) ∧ (((decide ((30 : Int) < ((List.length (g.rset (dd.b) PA PB)) : Int))) = false) → (((List.length (dd.b)) ≤ 1000000) ∧ (tailP g xs ps I m dd (g.set (dd.a) PA PB) (g.rset (dd.b) PA PB))))))) ∧ (((g.rmay PA PB) = false) → ([(Value.bool false)] = [(Value.bool true)]))))) ∧ (((g.setok (dd.a) PA PB) = false) → (True ∧ ((((g.rmay PA PB) = true) → (((List.length (dd.b)) ≤ 1000000) ∧ ((((decide ((30 : Int) < ((List.length (g.rset (dd.b) PA PB)) : Int))) = true) → (tailP g xs ps I m dd (g.set (dd.a) PA PB) (dd.b))) ∧ (((decide ((30 : Int) < ((List.length (g.rset (dd.b) PA PB)) : Int))) = false) → ([(Value.bool false)] = [(Value.bool true)]))))) ∧ (((g.rmay PA PB) = false) → (tailP g xs ps I m dd (g.set (dd.a) PA PB) (dd.b)))))))))))))
end Go.Proofs.Ytmhfnbbamoadgaa
end
section
namespace Go.Proofs.Ytmhfnbbamoadgaa
open Go.RowKit Go.Abs Go
def playsI (xs : List Value) (d : PlL) : Prop := ∃ i : Nat, d.i = i ∧ i ≤ 30 ∧ i ≤ xs.length ∧ d.a = d.b ∧ RightL d.a
def playsM (d : PlL) : Nat := (30 - d.i).toNat
theorem tail_ok (xs ps : List Value) {d : PlL} {i : Nat} (hi : d.i = i) (h30 : i < 30) (hx : i < xs.length) (hd : RightL d.a) {A : List Value} (hA : RightL A) : tailP kvF xs ps (playsI xs) playsM d A A := by
  have ho := ((right_iff A).1 hA.1).2
  have hl : A.length ≤ 1000000 := by omega
  have hl' : d.a.length ≤ 1000000 := by have := ((right_iff d.a).1 hd.1).2.2; omega
  unfold tailP
  generalize kvF.key (eI xs d.i.toNat) = k
  have hb := bs_rfirst k ho.1
  have hfd := fd_eq k ho.1
  have hrr := rfirst_range A k
  have fin : (!(bsF A k == rfirstF A k)) = true → [Value.bool false] = [Value.bool true] := fun h => by rw [hb] at h; simp at h
  have next : (-9223372036854775808 ≤ d.i + 1 ∧ d.i + 1 ≤ 9223372036854775807) ∧ ∃ ee : PlL, [Filler.dl xs, Filler.dl ps, Filler.dl ee.a, Filler.dl ee.b, Filler.val (Value.int IntKind.i64 ee.i)] = [Filler.dl xs, Filler.dl ps, Filler.dl A, Filler.dl A, Filler.val (Value.int IntKind.i64 (d.i + 1))] ∧ Nat.le (Nat.succ (playsM ee)) (playsM d) ∧ playsI xs ee := by
    refine ⟨by omega, ⟨d.i + 1, A, A⟩, rfl, ?_, i + 1, by show d.i + 1 = _; omega, by omega, by omega, rfl, hA⟩
    show (30 - (d.i + 1)).toNat + 1 ≤ (30 - d.i).toNat
    omega
  have hs : kvF.same A A = true := same_self A
  have hsd : kvF.same d.a d.a = true := same_self d.a
  have hr : kvF.right A = true := hA.1
  have nos : ∀ {X : Prop}, (kvF.same A A = false → X) := fun h => by rw [hs] at h; cases h
  have nosd : ∀ {X : Prop}, (kvF.same d.a d.a = false → X) := fun h => by rw [hsd] at h; cases h
  have nor : ∀ {X : Prop}, (kvF.right A = false → X) := fun h => by rw [hr] at h; cases h
  refine ⟨hl, fun h1 => ?_, fun h1 => ?_⟩ <;> refine ⟨hl, fun h2 => ?_, fun h2 => ?_⟩
  · have h1 : fdF A k = true := h1
    have h2' : rfirstF A k < (A.length : Int) := of_decide_eq_true h2
    refine ⟨⟨hrr.1, h2'⟩, fun h3 => ?_, fun h3 => ?_⟩
    · refine ⟨hl, fun _ => ⟨hl, fun _ => ⟨⟨hrr.1, h2'⟩, fun h4 => ?_, fun _ => ⟨hl', fun _ => ⟨hl, fin, fun _ => next⟩, nosd⟩⟩, nor⟩, nos⟩
      exfalso
      have h4 : (!eqB (getF A k) (vP A (rfirstF A k).toNat)) = true := h4
      unfold getF at h4
      rw [if_pos h1, hb, eqB_iff.2 rfl] at h4
      cases h4
    · exfalso
      have h3 : eqB (kP A (rfirstF A k).toNat) k = false := h3
      rw [hfd, h3, Bool.and_false] at h1; cases h1
  · exfalso
    have h1 : fdF A k = true := h1
    have h2 : decide (rfirstF A k < (A.length : Int)) = false := h2
    rw [hfd, h2, Bool.false_and] at h1; cases h1
  · have h1 : fdF A k = false := h1
    have h2' : rfirstF A k < (A.length : Int) := of_decide_eq_true h2
    refine ⟨⟨hrr.1, h2'⟩, fun h3 => ?_, fun h3 => ?_⟩
    · exfalso
      have h2 : decide (rfirstF A k < (A.length : Int)) = true := h2
      have h3 : eqB (kP A (rfirstF A k).toNat) k = true := h3
      rw [hfd, h2, h3] at h1; cases h1
    · refine ⟨hl, fun _ => ⟨hl, fun _ => ⟨fun h4 => ?_, fun _ => ⟨hl', fun _ => ⟨hl, fin, fun _ => next⟩, nosd⟩⟩, nor⟩, nos⟩
      exfalso
      have h4 : (!eqB (getF A k) noB) = true := h4
      unfold getF at h4
      rw [if_neg (by rw [h1]; exact Bool.false_ne_true), eqB_iff.2 rfl] at h4
      cases h4
  · have h1 : fdF A k = false := h1
    refine ⟨hl, fun _ => ⟨hl, fun _ => ⟨fun h4 => ?_, fun _ => ⟨hl', fun _ => ⟨hl, fin, fun _ => next⟩, nosd⟩⟩, nor⟩, nos⟩
    exfalso
    have h4 : (!eqB (getF A k) noB) = true := h4
    unfold getF at h4
    rw [if_neg (by rw [h1]; exact Bool.false_ne_true), eqB_iff.2 rfl] at h4
    cases h4
theorem body_ok (xs ps : List Value) {d : PlL} {i : Nat} (hi : d.i = i) (h30 : i < 30) (hx : i < xs.length) (hab : d.a = d.b) (hd : RightL d.a) (k v : ByteArray) : bodyP kvF xs ps (playsI xs) playsM d k v := by
  have ho := ((right_iff d.a).1 hd.1).2
  have hl : d.a.length ≤ 1000000 := by omega
  unfold bodyP
  rw [← hab]
  have hok := setok_eq hd k v
  refine ⟨by omega, by omega, by decide, fun _ => ⟨hl, hl, ?_⟩, fun _ => ⟨hl, fun h1 => ⟨trivial, fun h2 => ⟨hl, fun h3 => ?_, fun h3 => ⟨hl, ?_⟩⟩, fun h2 => ?_⟩, fun h1 => ⟨trivial, fun h2 => ⟨hl, fun h3 => ?_, fun h3 => ?_⟩, fun h2 => ?_⟩⟩⟩
  · show tailP kvF xs ps (playsI xs) playsM d (dropF d.a (keyF (eI xs d.i.toNat))) (rdelF d.a (keyF (eI xs d.i.toNat)))
    rw [drop_rdel _ hd.2 ho.1]
    refine tail_ok xs ps hi h30 hx hd ?_
    rw [rdel_eq _ hd.2]
    exact right_filter _ hd
  · exfalso
    have h1 : setokF d.a k v = true := h1
    have h3 : decide (30 < ((rsetF d.a k v).length : Int)) = true := h3
    rw [hok, h3] at h1; simp at h1
  · obtain ⟨e1, e2⟩ := set_rset hd (k := k) (v := v) h1
    show tailP kvF xs ps (playsI xs) playsM d (setF d.a k v) (rsetF d.a k v)
    rw [e1]
    exact tail_ok xs ps hi h30 hx hd e2
  · exfalso
    have h1 : setokF d.a k v = true := h1
    have h2 : rmayF k v = false := h2
    rw [hok, h2] at h1; cases h1
  · have h1 : setokF d.a k v = false := h1
    have e : setF d.a k v = d.a := by unfold setF; rw [if_neg (by rw [h1]; exact Bool.false_ne_true)]
    show tailP kvF xs ps (playsI xs) playsM d (setF d.a k v) d.a
    rw [e]
    exact tail_ok xs ps hi h30 hx hd hd
  · exfalso
    have h1 : setokF d.a k v = false := h1
    have h2 : rmayF k v = true := h2
    have h3 : decide (30 < ((rsetF d.a k v).length : Int)) = false := h3
    rw [hok, h2, h3] at h1; cases h1
  · have h1 : setokF d.a k v = false := h1
    have e : setF d.a k v = d.a := by unfold setF; rw [if_neg (by rw [h1]; exact Bool.false_ne_true)]
    show tailP kvF xs ps (playsI xs) playsM d (setF d.a k v) d.a
    rw [e]
    exact tail_ok xs ps hi h30 hx hd hd
theorem tdiv12 {x : Int} (h : -9223372036854775808 ≤ x ∧ x ≤ 9223372036854775807) : -9223372036854775808 ≤ x.tdiv 12 ∧ x.tdiv 12 ≤ 9223372036854775807 := by
  rcases Int.le_total 0 x with h0 | h0
  · rw [Int.tdiv_eq_ediv_of_nonneg h0]; omega
  · have : x.tdiv 12 = -((-x) / 12) := by
      rw [← Int.tdiv_eq_ediv_of_nonneg (by omega : 0 ≤ -x), Int.neg_tdiv, Int.neg_neg]
    rw [this]; omega
end Go.Proofs.Ytmhfnbbamoadgaa
end
section
namespace Go.Proofs.Ytmhfnbbamoadgaa
open Go.RowKit Go.Abs Go
set_option maxRecDepth 100000
theorem cmpC_ok : ∀ args h K, cmpC cmpB args h K → CallSem Try.prog 81 args h K := by
  intro args h K e μ base w args' hl hrel hfree
  unfold cmpC at e
  split at e
  case h_2 => exact e.elim
  rename_i a b
  split at e
  case h_2 => exact e.elim
  rename_i x y hx hy
  obtain ⟨v1, l1, e1, r1, hl⟩ := hl.inv_cons
  obtain ⟨v2, l2, rfl, r2, hl⟩ := hl.inv_cons
  have := hl.inv_nil; subst this
  have r1 := r1.den; rw [hx] at r1
  have r2 := r2.den; rw [hy] at r2
  rw [r1.inv_string, r2.inv_string] at e1
  have : args' = #[.string x, .string y] := Array.toList_inj.1 e1
  subst this
  obtain ⟨v', w', μ', h1, h2⟩ := externA_run (P := Try.prog) (μ := μ) (base := base) (w := w) (fn := Try.f81) (args := [.string x, .string y]) (args' := #[.string x, .string y]) (v := goInt (Lib.compareBytes x.data.toList y.data.toList)) (h := h) (h' := h)
    rfl (All2.cons (.plain1 rfl) (All2.cons (.plain1 rfl) All2.nil)) hrel (fun h => by omega) Try.func81 rfl
  refine .inl ⟨v', w', h1, mk (.int .i64 (cmpB x y)), h, μ', e, ?_⟩
  have hv : v' = .int .i64 (cmpB x y) := h2.val.inv_int
  subst hv
  refine ⟨.zero (.mark (.plain rfl) rfl), h2.sim.rel, fun b hb => ?_, h2.sim.fr, h2.sim.own, fun i hi => ?_, Nat.le_refl _, h2.sim.le.z, h2.sim.fz⟩
  · by_cases e : μ' b = μ b
    · rw [e]; exact hfree b hb
    · have := h2.dom b e; omega
  · by_cases e : μ' i = μ i
    · exact e
    · have := h2.dom i e; omega
theorem bs_ok : PFOk Try.prog 67 (bsP std kvF) :=
  pf_ok Try.progOk (conL_ok fun x hx => by rw [List.mem_singleton.1 hx]; exact cmpC_ok) (inCallF_ok 60) (bsP std kvF) Try.func67 (show _ = some (bodyS Try.prog 67) by kernel_rfl) fun d hd => bs_run d.1 d.2.1 hd
theorem bsCon_ok : ConOk Try.prog (bsCon std kvF) := conL_ok fun x hx => by rw [List.mem_singleton.1 hx]; exact pcon_ok bs_ok
theorem may_ok : PFOk Try.prog 55 (mayP kvF) :=
  pf_ok (LS := fun _ => noL) Try.progOk (noCon_ok _) (inCallF_ok 60) (mayP kvF) Try.func55 (show _ = some (bodyS Try.prog 55) by kernel_rfl) fun d _ => may_run d.1.1 d.1.2.1
theorem rmay_ok : PFOk Try.prog 41 (rmayP kvF) :=
  pf_ok (LS := fun _ => noL) Try.progOk (noCon_ok _) (inCallF_ok 60) (rmayP kvF) Try.func41 (show _ = some (bodyS Try.prog 41) by kernel_rfl) fun d _ => rmay_run d.1.1 d.1.2.1
theorem right_ok : PFOk Try.prog 31 (rightP std kvF) :=
  pf_ok Try.progOk (draw_ok (noCon_ok _) fun x hx => by rw [List.mem_singleton.1 hx]; exact dcon_ok rfl may_ok) (inCallF_ok 60) (rightP std kvF) Try.func31 (show _ = some (bodyS Try.prog 31) by kernel_rfl) fun d hd => right_run d.1 hd
theorem rright_ok : PFOk Try.prog 19 (rrightP std kvF) :=
  pf_ok Try.progOk (draw_ok (noCon_ok _) fun x hx => by rw [List.mem_singleton.1 hx]; exact dcon_ok rfl rmay_ok) (inCallF_ok 60) (rrightP std kvF) Try.func19 (show _ = some (bodyS Try.prog 19) by kernel_rfl) fun d hd => rright_run d.1 hd
theorem same_ok : PFOk Try.prog 22 (sameP std kvF) :=
  pf_ok Try.progOk (noCon_ok _) (inCallF_ok 60) (sameP std kvF) Try.func22 (show _ = some (bodyS Try.prog 22) by kernel_rfl) fun d hd => same_run d.1 d.2.1 hd
theorem first_ok : PFOk Try.prog 51 (firstP std kvF) :=
  pf_ok (LS := fun _ => noL) Try.progOk bsCon_ok (inCallF_ok 60) (firstP std kvF) Try.func51 (show _ = some (bodyS Try.prog 51) by kernel_rfl) fun d hd => first_run d.1 d.2.1 hd
theorem get_ok : PFOk Try.prog 29 (getP std kvF) :=
  pf_ok (LS := fun _ => noL) Try.progOk bsCon_ok (inCallF_ok 60) (getP std kvF) Try.func29 (show _ = some (bodyS Try.prog 29) by kernel_rfl) fun d hd => get_run d.1 d.2.1 hd
theorem rfirst_ok : PFOk Try.prog 63 (rfirstP std kvF) :=
  pf_ok Try.progOk (noCon_ok _) (inCallF_ok 60) (rfirstP std kvF) Try.func63 (show _ = some (bodyS Try.prog 63) by kernel_rfl) fun d hd => rfirst_run d.1 d.2.1 hd
theorem rdel_ok : PFOk Try.prog 48 (rdelP std kvF) :=
  pf_ok Try.progOk (noCon_ok _) (inCallF_ok 60) (rdelP std kvF) Try.func48 (show _ = some (bodyS Try.prog 48) by kernel_rfl) fun d hd => rdel_run d.1 d.2.1 hd
theorem rset_ok : PFOk Try.prog 47 (rsetP std kvF) :=
  pf_ok (LS := fun _ => noL) Try.progOk (conL_ok fun x hx => by rw [List.mem_singleton.1 hx]; exact pcon_ok rfirst_ok) (inCallF_ok 60) (rsetP std kvF) Try.func47 (show _ = some (bodyS Try.prog 47) by kernel_rfl) fun d hd => rset_run d.1 d.2.1.1 d.2.1.2.1 hd
theorem inI_std {n : Int} (h : inI std n) : -9223372036854775808 ≤ n ∧ n ≤ 9223372036854775807 := by
  obtain ⟨h1, h2⟩ := h
  have h1 : -9223372036854775808 ≤ n := h1
  have h2 : n ≤ 9223372036854775807 := h2
  exact ⟨h1, h2⟩
theorem withinCon_ok : ConOk Try.prog (withinCon std) := conL_ok fun x hx => by rw [List.mem_singleton.1 hx]; exact withinC_ok
theorem key_ok : PFOk Try.prog 39 (keyP std kvF) :=
  pf_ok (LS := fun _ => noL) Try.progOk withinCon_ok (inCallF_ok 60) (keyP std kvF) Try.func39 (show _ = some (bodyS Try.prog 39) by kernel_rfl) fun d hd => by
    obtain ⟨n, u⟩ := d
    obtain ⟨h⟩ := key_run n (inI_std hd)
    exact h
theorem txt_ok : PFOk Try.prog 38 (txtP std kvF) :=
  pf_ok (LS := fun _ => noL) Try.progOk withinCon_ok (inCallF_ok 60) (txtP std kvF) Try.func38 (show _ = some (bodyS Try.prog 38) by kernel_rfl) fun d hd => by
    obtain ⟨n, u⟩ := d
    obtain ⟨h⟩ := txt_run n (inI_std hd)
    exact h
def IntsOk (xs : List Value) : Prop := ∀ i, i < xs.length → -9223372036854775808 ≤ eI xs i ∧ eI xs i ≤ 9223372036854775807
/-- KvPlays, of lists of numbers. -/
noncomputable def playsQ : PF := pf (.cons cIs (.cons cP .nil)) (fun d => IntsOk d.1) [.bool false] fun _ => [.bool true]
end Go.Proofs.Ytmhfnbbamoadgaa
end
section
namespace Go.Proofs.Ytmhfnbbamoadgaa
open Go.Abs Go
set_option maxRecDepth 100000 in
theorem pairs_vc (g : KvF) (xs ks : List Value) (I : PaL → Prop) (m : PaL → Nat) (J : PaM → Prop) (q : PaM → Nat) : runP std (pairsCon std g) 60 (pairsLs xs ks I m J q) (pairsP std g) 18 Try.f18 (xs, ()) =
  (∃ (d9 : PaL), (([(Filler.dl xs), (Filler.val (Value.int IntKind.i64 (d9.i))), (Filler.me (d9.es))] = [(Filler.dl xs), (Filler.val (Value.int IntKind.i64 (0 : Int))), (Filler.me [])]) ∧ ((I d9) ∧ (∀ (d10 : PaL), ((I d10) → ((((decide ((d10.i) < ((List.length xs) : Int))) = true) → ((((decide ((d10.i) < (12 : Int))) = true) → ((((0 : Int) ≤ (d10.i)) ∧ ((d10.i) < ((List.length xs) : Int))) ∧ ((((-9223372036854775808 : Int) ≤ (eI xs (Int.toNat (d10.i)))) ∧ ((eI xs (Int.toNat (d10.i))) ≤ (9223372036854775807 : Int))) ∧ ((((0 : Int) ≤ (d10.i)) ∧ ((d10.i) < ((List.length xs) : Int))) ∧ ((((0 : Int) < (12 : Int)) ∧ (((-9223372036854775808 : Int) ≤ (eI xs (Int.toNat (d10.i)))) ∧ ((eI xs (Int.toNat (d10.i))) ≤ (9223372036854775807 : Int)))) ∧ ((((-9223372036854775808 : Int) ≤ (std.quo (eI xs (Int.toNat (d10.i))) (12 : Int))) ∧ ((std.quo (eI xs (Int.toNat (d10.i))) (12 : Int)) ≤ (9223372036854775807 : Int))) ∧ ((((-9223372036854775808 : Int) ≤ ((d10.i) + (1 : Int))) ∧ (((d10.i) + (1 : Int)) ≤ (9223372036854775807 : Int))) ∧ (∃ (d14 : PaL), (([(Filler.dl xs), (Filler.val (Value.int IntKind.i64 (d14.i))), (Filler.me (d14.es))] = [(Filler.dl xs), (Filler.val (Value.int IntKind.i64 ((d10.i) + (1 : Int)))), (Filler.me (std.mput (Value.string (ByteArray.mk (Array.mk []))) (d10.es) (Value.string (g.key (eI xs (Int.toNat (d10.i))))) (Value.string (g.txt (std.quo (eI xs (Int.toNat (d10.i))) (12 : Int))))))]) ∧ ((Nat.le (Nat.succ (m d14)) (m d10)) ∧ (I d14))))))))))) ∧ (((decide ((d10.i) < (12 : Int))) = false) → (∃ (d14 : PaM), (([(Filler.dl (d14.r)), (Filler.dl ks), (Filler.val (Value.int IntKind.i64 (d14.n))), (Filler.val (Value.int IntKind.i64 (d14.i))), (Filler.me (d14.es))] = [(Filler.dl []), (Filler.dl [(Value.string (ByteArray.mk (Array.mk [(97 : UInt8)]))), (Value.string (ByteArray.mk (Array.mk [(97 : UInt8), (98 : UInt8)]))), (Value.string (ByteArray.mk (Array.mk [(97 : UInt8), (98 : UInt8), (99 : UInt8)]))), (Value.string (ByteArray.mk (Array.mk [(98 : UInt8)]))), (Value.string (ByteArray.mk (Array.mk [(98 : UInt8), (97 : UInt8)]))), (Value.string (ByteArray.mk (Array.mk [(115 : UInt8), (47 : UInt8), (97 : UInt8)]))), (Value.string (ByteArray.mk (Array.mk [(115 : UInt8), (47 : UInt8), (98 : UInt8)]))), (Value.string (ByteArray.mk (Array.mk [(115 : UInt8), (47 : UInt8), (99 : UInt8)]))), (Value.string (ByteArray.mk (Array.mk [(116 : UInt8)]))), (Value.string (ByteArray.mk (Array.mk [(117 : UInt8)]))), (Value.string (ByteArray.mk (Array.mk [(122 : UInt8)]))), (Value.string (ByteArray.mk (Array.mk [(122 : UInt8), (122 : UInt8)])))]), (Filler.val (Value.int IntKind.i64 (12 : Int))), (Filler.val (Value.int IntKind.i64 (0 : Int))), (Filler.me (d10.es))]) ∧ ((J d14) ∧ (∀ (d15 : PaM), ((J d15) → ((((decide ((d15.i) < (d15.n))) = true) → ((((0 : Int) ≤ (d15.i)) ∧ ((d15.i) < ((List.length ks) : Int))) ∧ ((((std.mhas (Value.string (ByteArray.mk (Array.mk []))) (d15.es) (Value.string (eS ks (Int.toNat (d15.i))))) = true) → ((((List.length ((d15.r) ++ [(Value.agg (Array.mk [(Value.string (eS ks (Int.toNat (d15.i)))), (Value.string (std.dstr (std.mget (Value.string (ByteArray.mk (Array.mk []))) (Value.string (ByteArray.mk (Array.mk []))) (d15.es) (Value.string (eS ks (Int.toNat (d15.i)))))))]))])) * 32) ≤ 140737488355328) ∧ ((((-9223372036854775808 : Int) ≤ ((d15.i) + (1 : Int))) ∧ (((d15.i) + (1 : Int)) ≤ (9223372036854775807 : Int))) ∧ (∃ (d19 : PaM), (([(Filler.dl (d19.r)), (Filler.dl ks), (Filler.val (Value.int IntKind.i64 (d19.n))), (Filler.val (Value.int IntKind.i64 (d19.i))), (Filler.me (d19.es))] = [(Filler.dl ((d15.r) ++ [(Value.agg (Array.mk [(Value.string (eS ks (Int.toNat (d15.i)))), (Value.string (std.dstr (std.mget (Value.string (ByteArray.mk (Array.mk []))) (Value.string (ByteArray.mk (Array.mk []))) (d15.es) (Value.string (eS ks (Int.toNat (d15.i)))))))]))])), (Filler.dl ks), (Filler.val (Value.int IntKind.i64 (d15.n))), (Filler.val (Value.int IntKind.i64 ((d15.i) + (1 : Int)))), (Filler.me (d15.es))]) ∧ ((Nat.le (Nat.succ (q d19)) (q d15)) ∧ (J d19))))))) ∧ (((std.mhas (Value.string (ByteArray.mk (Array.mk []))) (d15.es) (Value.string (eS ks (Int.toNat (d15.i))))) = false) → ((((-9223372036854775808 : Int) ≤ ((d15.i) + (1 : Int))) ∧ (((d15.i) + (1 : Int)) ≤ (9223372036854775807 : Int))) ∧ (∃ (d19 : PaM), (([(Filler.dl (d19.r)), (Filler.dl ks), (Filler.val (Value.int IntKind.i64 (d19.n))), (Filler.val (Value.int IntKind.i64 (d19.i))), (Filler.me (d19.es))] = [(Filler.dl (d15.r)), (Filler.dl ks), (Filler.val (Value.int IntKind.i64 (d15.n))), (Filler.val (Value.int IntKind.i64 ((d15.i) + (1 : Int)))), (Filler.me (d15.es))]) ∧ ((Nat.le (Nat.succ (q d19)) (q d15)) ∧ (J d19))))))))) ∧ (((decide ((d15.i) < (d15.n))) = false) → ([(dsl zP (d15.r))] = [(dsl zP (g.pairs xs))]))))))))))) ∧ (((decide ((d10.i) < ((List.length xs) : Int))) = false) → (∃ (d13 : PaM), (([(Filler.dl (d13.r)), (Filler.dl ks), (Filler.val (Value.int IntKind.i64 (d13.n))), (Filler.val (Value.int IntKind.i64 (d13.i))), (Filler.me (d13.es))] = [(Filler.dl []), (Filler.dl [(Value.string (ByteArray.mk (Array.mk [(97 : UInt8)]))), (Value.string (ByteArray.mk (Array.mk [(97 : UInt8), (98 : UInt8)]))), (Value.string (ByteArray.mk (Array.mk [(97 : UInt8), (98 : UInt8), (99 : UInt8)]))), (Value.string (ByteArray.mk (Array.mk [(98 : UInt8)]))), (Value.string (ByteArray.mk (Array.mk [(98 : UInt8), (97 : UInt8)]))), (Value.string (ByteArray.mk (Array.mk [(115 : UInt8), (47 : UInt8), (97 : UInt8)]))), (Value.string (ByteArray.mk (Array.mk [(115 : UInt8), (47 : UInt8), (98 : UInt8)]))), (Value.string (ByteArray.mk (Array.mk [(115 : UInt8), (47 : UInt8), (99 : UInt8)]))), (Value.string (ByteArray.mk (Array.mk [(116 : UInt8)]))), (Value.string (ByteArray.mk (Array.mk [(117 : UInt8)]))), (Value.string (ByteArray.mk (Array.mk [(122 : UInt8)]))), (Value.string (ByteArray.mk (Array.mk [(122 : UInt8), (122 : UInt8)])))]), (Filler.val (Value.int IntKind.i64 (12 : Int))), (Filler.val (Value.int IntKind.i64 (0 : Int))), (Filler.me (d10.es))]) ∧ ((J d13) ∧ (∀ (d14 : PaM), ((J d14) → ((((decide ((d14.i) < (d14.n))) = true) → ((((0 : Int) ≤ (d14.i)) ∧ ((d14.i) < ((List.length ks) : Int))) ∧ ((((std.mhas (Value.string (ByteArray.mk (Array.mk []))) (d14.es) (Value.string (eS ks (Int.toNat (d14.i))))) = true) → ((((List.length ((d14.r) ++ [(Value.agg (Array.mk [(Value.string (eS ks (Int.toNat (d14.i)))), (Value.string (std.dstr (std.mget (Value.string (ByteArray.mk (Array.mk []))) (Value.string (ByteArray.mk (Array.mk []))) (d14.es) (Value.string (eS ks (Int.toNat (d14.i)))))))]))])) * 32) ≤ 140737488355328) ∧ ((((-9223372036854775808 : Int) ≤ ((d14.i) + (1 : Int))) ∧ (((d14.i) + (1 : Int)) ≤ (9223372036854775807 : Int))) ∧ (∃ (d18 : PaM), (([(Filler.dl (d18.r)), (Filler.dl ks), (Filler.val (Value.int IntKind.i64 (d18.n))), (Filler.val (Value.int IntKind.i64 (d18.i))), (Filler.me (d18.es))] = [(Filler.dl ((d14.r) ++ [(Value.agg (Array.mk [(Value.string (eS ks (Int.toNat (d14.i)))), (Value.string (std.dstr (std.mget (Value.string (ByteArray.mk (Array.mk []))) (Value.string (ByteArray.mk (Array.mk []))) (d14.es) (Value.string (eS ks (Int.toNat (d14.i)))))))]))])), (Filler.dl ks), (Filler.val (Value.int IntKind.i64 (d14.n))), (Filler.val (Value.int IntKind.i64 ((d14.i) + (1 : Int)))), (Filler.me (d14.es))]) ∧ ((Nat.le (Nat.succ (q d18)) (q d14)) ∧ (J d18))))))) ∧ (((std.mhas (Value.string (ByteArray.mk (Array.mk []))) (d14.es) (Value.string (eS ks (Int.toNat (d14.i))))) = false) → ((((-9223372036854775808 : Int) ≤ ((d14.i) + (1 : Int))) ∧ (((d14.i) + (1 : Int)) ≤ (9223372036854775807 : Int))) ∧ (∃ (d18 : PaM), (([(Filler.dl (d18.r)), (Filler.dl ks), (Filler.val (Value.int IntKind.i64 (d18.n))), (Filler.val (Value.int IntKind.i64 (d18.i))), (Filler.me (d18.es))] = [(Filler.dl (d14.r)), (Filler.dl ks), (Filler.val (Value.int IntKind.i64 (d14.n))), (Filler.val (Value.int IntKind.i64 ((d14.i) + (1 : Int)))), (Filler.me (d14.es))]) ∧ ((Nat.le (Nat.succ (q d18)) (q d14)) ∧ (J d18))))))))) ∧ (((decide ((d14.i) < (d14.n))) = false) → ([(dsl zP (d14.r))] = [(dsl zP (g.pairs xs))]))))))))))))))) := by kernel_rfl
end Go.Proofs.Ytmhfnbbamoadgaa
end
