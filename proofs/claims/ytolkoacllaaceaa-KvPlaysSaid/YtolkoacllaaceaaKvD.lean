/-
  KV: kinds of data, functions of immutable data: contracts' forms.
-/
import Derived.Test.YtolkoacllaaceaaAbsP
import Derived.Test.YtolkoacllaaceaaAbs40
namespace Go.Proofs.Ytolkoacllaaceaa
open Go.RowKit Go.Abs Go
noncomputable section
def bodyS (P : Program) (f : Nat) : Code := ((P.funcs[f]?).bind (·.body)).getD .skip
/-- A function's text against what is said of it. -/
def runP (S : Sy) (C : Con) (n : Nat) (LS : Loops) (F : PF) (f : Nat) (fn : Func) (d : F.D) : Prop := lawV S Try.prog C (inCallF 60) n LS fn (bodyS Try.prog f) (F.args d) (hpOf []) (F.done d)
def noL : Loops := fun _ => none
def zS : Value := .string ⟨#[]⟩
def zP : Value := .agg #[.string ⟨#[]⟩, .string ⟨#[]⟩]
def zI : Value := .int .i64 0
def cP : Cod (List Value) := cL zP rfl
def cPr : Cod (ByteArray × ByteArray × Unit) := cA (.cons cS rfl (.cons cS rfl .nil))
def fnV (f : FuncId) : Value := .func (.func f) #[] #[]
theorem raw_fn (f : FuncId) (deep : Value → Value → Option (List Value)) (u : Value) : rawV deep (fnV f) u = if vbeq1 (fnV f) u then some (fnV f) else none := rfl
def cF (f : FuncId) (h : vbeq1 (fnV f) (fnV f) = true) : Cod Unit := cK (fnV f) (by rw [raw_fn, if_pos h]) (fun deep u x h => by rw [raw_fn] at h; split at h <;> simp_all) rfl
/-- Strings held against one another: the runtime's own function. -/
def cmpC (cmp : ByteArray → ByteArray → Int) (args : List Value) (h : Hp) (K : Value → Hp → Prop) : Prop :=
  match args with
  | [a, b] => match den a, den b with
    | .string x, .string y => K (mk (.int .i64 (cmp x y))) h
    | _, _ => False
  | _ => False
def LIM : Nat := 1000000
theorem raw_nil (deep : Value → Value → Option (List Value)) (u : Value) : rawV deep (.slice none 0 0) u = if vbeq1 (.slice none 0 0) u then some (.slice none 0 0) else none := rfl
/-- nil. -/
def cN : Cod Unit := cK (.slice none 0 0) (by rw [raw_nil, if_pos (show vbeq1 (.slice none 0 0) (.slice none 0 0) = true from rfl)]) (fun deep u x h => by rw [raw_nil] at h; split at h <;> simp_all) rfl
def cI64 : Cod Int := cI .i64
/-- slices.Grow of nil. -/
def growP (S : Sy) (z : Value) : PF := pf (.cons cN (.cons cI64 .nil)) (fun d => S.ile 0 d.2.1 ∧ S.ile d.2.1 4000000) [dsl z []] (fun _ => [dsl z []]) true
def cIs : Cod (List Value) := cL zI rfl
def cSs : Cod (List Value) := cL zS rfl
def cYs : Cod (List Value) := cL (.int .u8 0) rfl
def cPss : Cod (List Value) := cL (dsl zP []) rfl
/-- Elements. -/
def zPs : Value := dsl zP []
def kP (xs : List Value) (i : Nat) : ByteArray := dstr (fld (xs.getD i zP) 0)
def vP (xs : List Value) (i : Nat) : ByteArray := dstr (fld (xs.getD i zP) 1)
def eI (xs : List Value) (i : Nat) : Int := dint (xs.getD i zI)
def eB (xs : List Value) (i : Nat) : Int := dint (xs.getD i (.int .u8 0))
def eS (xs : List Value) (i : Nat) : ByteArray := dstr (xs.getD i zS)
def eL (xs : List Value) (i : Nat) : List Value := dels (xs.getD i zPs)
/-- What the functions come to: letters. -/
structure KvF where
  cmp : ByteArray → ByteArray → Int
  bs : List Value → ByteArray → Int
  fd : List Value → ByteArray → Bool
  may : ByteArray → ByteArray → Bool
  rmay : ByteArray → ByteArray → Bool
  right : List Value → Bool
  rright : List Value → Bool
  same : List Value → List Value → Bool
  sameb : List Value → List Value → Bool
  get : List Value → ByteArray → ByteArray
  set : List Value → ByteArray → ByteArray → List Value
  setok : List Value → ByteArray → ByteArray → Bool
  del : List Value → ByteArray → List Value
  rng : List Value → ByteArray → ByteArray → List Value
  rset : List Value → ByteArray → ByteArray → List Value
  rdel : List Value → ByteArray → List Value
  rfirst : List Value → ByteArray → Int
  leaf : ByteArray → ByteArray → List Value
  key : Int → ByteArray
  txt : Int → ByteArray
  pairs : List Value → List Value
  cat : List Value → List Value
  one : Int → List Value
  text : List Value → List Value
  wi : Int → Int → Int → Int
variable (S : Sy) (g : KvF)
def bsP : PF := pf (.cons cP (.cons cS (.cons (cF 32 rfl) .nil))) (fun d => S.nle (S.len d.1) LIM) [zI, .bool false] fun d => [mk (.int .i64 (g.bs d.1 d.2.1)), mkb (g.fd d.1 d.2.1)]
def mayP : PF := pf (.cons cPr .nil) (fun _ => True) [.bool false] fun d => [mkb (g.may d.1.1 d.1.2.1)]
def rmayP : PF := pf (.cons cPr .nil) (fun _ => True) [.bool false] fun d => [mkb (g.rmay d.1.1 d.1.2.1)]
def rightP : PF := pf (.cons cP .nil) (fun d => S.nle (S.len d.1) LIM) [.bool false] fun d => [mkb (g.right d.1)]
def rrightP : PF := pf (.cons cP .nil) (fun d => S.nle (S.len d.1) LIM) [.bool false] fun d => [mkb (g.rright d.1)]
def sameP : PF := pf (.cons cP (.cons cP .nil)) (fun d => S.nle (S.len d.1) LIM) [.bool false] fun d => [mkb (g.same d.1 d.2.1)]
def samebP : PF := pf (.cons cYs (.cons cYs .nil)) (fun d => S.nle (S.len d.1) LIM) [.bool false] fun d => [mkb (g.sameb d.1 d.2.1)]
def getP : PF := pf (.cons cP (.cons cS .nil)) (fun d => S.nle (S.len d.1) LIM) [zS, .bool false] fun d => [mk (.string (g.get d.1 d.2.1)), mkb (g.fd d.1 d.2.1)]
def firstP : PF := pf (.cons cP (.cons cS .nil)) (fun d => S.nle (S.len d.1) LIM) [zI] fun d => [mk (.int .i64 (g.bs d.1 d.2.1))]
def setP : PF := pf (.cons cP (.cons cPr .nil)) (fun d => S.nle (S.len d.1) LIM) [dsl zP [], .bool false] fun d => [dsl zP (g.set d.1 d.2.1.1 d.2.1.2.1), mkb (g.setok d.1 d.2.1.1 d.2.1.2.1)]
def delP : PF := pf (.cons cP (.cons cS .nil)) (fun d => S.nle (S.len d.1) LIM) [dsl zP []] fun d => [dsl zP (g.del d.1 d.2.1)]
def rngP : PF := pf (.cons cP (.cons cS (.cons cS .nil))) (fun d => S.nle (S.len d.1) LIM) [dsl zP []] fun d => [dsl zP (g.rng d.1 d.2.1 d.2.2.1)]
def rsetP : PF := pf (.cons cP (.cons cPr .nil)) (fun d => S.nle (S.len d.1) LIM) [dsl zP []] fun d => [dsl zP (g.rset d.1 d.2.1.1 d.2.1.2.1)]
def rdelP : PF := pf (.cons cP (.cons cS .nil)) (fun d => S.nle (S.len d.1) LIM) [dsl zP []] fun d => [dsl zP (g.rdel d.1 d.2.1)]
def rfirstP : PF := pf (.cons cP (.cons cS .nil)) (fun d => S.nle (S.len d.1) LIM) [zI] fun d => [mk (.int .i64 (g.rfirst d.1 d.2.1))]
def keyP : PF := pf (.cons cI64 .nil) (fun d => inI S d.1) [zS] fun d => [mk (.string (g.key d.1))]
def txtP : PF := pf (.cons cI64 .nil) (fun d => inI S d.1) [zS] fun d => [mk (.string (g.txt d.1))]
structure IL where
  i : Int
structure NIL where
  n : Int
  i : Int
structure BsL where
  n : Int
  i : Int
  j : Int
def loop1 (L : LSpec) (b : Nat) : Loops := fun id => if id = b then some [L] else none
def bsLs (xs : List Value) (k : ByteArray) (I : BsL → Prop) (m : BsL → Nat) : Loops := loop1 { D := BsL, sh := ⟨slotsOf 49 [(0, .one (.zero (.deep zP))), (1, .one (.zero .hole)), (2, .one (.zero (.lit (fnV 32)))), (8, .one (.zero .hole)), (9, .one (.zero .hole)), (10, .one (.zero .hole))], []⟩, rho := fun _ => [], fills := fun d => [.dl xs, .val (.string k), .val (.int .i64 d.n), .val (.int .i64 d.i), .val (.int .i64 d.j)], I := I, m := m } 0
/-- A walk over all of a slice: slots a, b hold it, n its length, i the number. -/
def walkLs (nt a b n i : Nat) (xs : List Value) (I : NIL → Prop) (m : NIL → Nat) : Loops := loop1 { D := NIL, sh := ⟨slotsOf nt [(a, .one (.zero (.deep zP))), (b, .one (.zero (.deep zP))), (n, .one (.zero .hole)), (i, .one (.zero .hole))], []⟩, rho := fun _ => [], fills := fun d => [.dl xs, .dl xs, .val (.int .i64 d.n), .val (.int .i64 d.i)], I := I, m := m } 0
def sameLs (z : Value) (xs ys : List Value) (I : IL → Prop) (m : IL → Nat) : Loops := loop1 { D := IL, sh := ⟨slotsOf 26 [(0, .one (.zero (.deep z))), (1, .one (.zero (.deep z))), (5, .one (.zero .hole))], []⟩, rho := fun _ => [], fills := fun d => [.dl xs, .dl ys, .val (.int .i64 d.i)], I := I, m := m } 0
def rfirstLs (xs : List Value) (k : ByteArray) (I : IL → Prop) (m : IL → Nat) : Loops := loop1 { D := IL, sh := ⟨slotsOf 22 [(0, .one (.zero (.deep zP))), (1, .one (.zero .hole)), (5, .one (.zero .hole))], []⟩, rho := fun _ => [], fills := fun d => [.dl xs, .val (.string k), .val (.int .i64 d.i)], I := I, m := m } 0
structure DelL where
  n : Int
  i : Int
  r : List Value
def rdelSh : Shape := ⟨slotsOf 24 [(1, .one (.zero .hole)), (5, .one (.zero (.osl 0 zP))), (8, .one (.zero (.deep zP))), (9, .one (.zero .hole)), (10, .one (.zero .hole))], [some .tok]⟩
def rdelLs (xs : List Value) (k : ByteArray) (I : DelL → Prop) (m : DelL → Nat) : Loops := loop1 { D := DelL, sh := rdelSh, rho := rdelSh.find 0, fills := fun d => [.val (.string k), .dl d.r, .dl xs, .val (.int .i64 d.n), .val (.int .i64 d.i)], I := I, m := m } 0
def catP : PF := pf (.cons cPss .nil) (fun d => S.nle (S.len d.1) 3 ∧ ∀ i, S.nlt i (S.len d.1) → S.nle (S.len (S.dels (S.get (dsl zP []) d.1 i))) LIM) [dsl zP []] fun d => [dsl zP (g.cat d.1)]
def cloneP : PF := pf (.cons cP .nil) (fun d => S.nle (S.len d.1) LIM) [dsl zP []] (fun d => [dsl zP d.1]) true
def oneP : PF := pf (.cons cI64 .nil) (fun d => S.ile 0 d.1 ∧ S.ile d.1 1099511627775) [dsl (.int .u8 0) []] fun d => [dsl (.int .u8 0) (g.one d.1)]
def textP : PF := pf (.cons cSs .nil) (fun d => S.nle (S.len d.1) 2 ∧ ∀ i, S.nlt i (S.len d.1) → S.nle (S.slen (S.dstr (S.get zS d.1 i))) LIM) [dsl (.int .u8 0) []] fun d => [dsl (.int .u8 0) (g.text d.1)]
def leafP : PF := pf (.cons cPr .nil) (fun d => S.nle (S.slen d.1.1) LIM ∧ S.nle (S.slen d.1.2.1) LIM) [dsl (.int .u8 0) []] fun d => [dsl (.int .u8 0) (g.leaf d.1.1 d.1.2.1)]
structure CatA where
  s : Int
  n : Int
  i : Int
structure CatB where
  r : List Value
  n : Int
  i : Int
def catSh : Shape := ⟨slotsOf 36 [(6, .one (.zero (.osl 0 zP))), (25, .one (.zero (.deep (dsl zP [])))), (26, .one (.zero .hole)), (27, .one (.zero .hole))], [some .tok]⟩
def catLs (xss : List Value) (I : CatA → Prop) (m : CatA → Nat) (J : CatB → Prop) (l : CatB → Nat) : Loops := fun id => if id = 0 then some [{ D := CatA, sh := ⟨slotsOf 36 [(0, .one (.zero (.deep (dsl zP [])))), (3, .one (.zero .hole)), (9, .one (.zero (.deep (dsl zP [])))), (10, .one (.zero .hole)), (11, .one (.zero .hole))], []⟩, rho := fun _ => [], fills := fun d => [.dl xss, .val (.int .i64 d.s), .dl xss, .val (.int .i64 d.n), .val (.int .i64 d.i)], I := I, m := m }] else
  if id = 2 then some [{ D := CatB, sh := catSh, rho := catSh.find 0, fills := fun d => [.dl d.r, .dl xss, .val (.int .i64 d.n), .val (.int .i64 d.i)], I := J, m := l }] else none
structure OneL where
  n : Int
  r : List Value
def oneSh : Shape := ⟨slotsOf 26 [(0, .one (.zero .hole)), (3, .one (.zero (.osl 0 (.int .u8 0))))], [some .tok]⟩
def oneLs (I : OneL → Prop) (m : OneL → Nat) : Loops := loop1 { D := OneL, sh := oneSh, rho := oneSh.find 0, fills := fun d => [.val (.int .i64 d.n), .dl d.r], I := I, m := m } 0
def textSh : Shape := ⟨slotsOf 21 [(3, .one (.zero (.osl 0 (.int .u8 0)))), (6, .one (.zero (.deep zS))), (7, .one (.zero .hole)), (8, .one (.zero .hole))], [some .tok]⟩
def textLs (xs : List Value) (I : CatB → Prop) (m : CatB → Nat) : Loops := loop1 { D := CatB, sh := textSh, rho := textSh.find 0, fills := fun d => [.dl d.r, .dl xs, .val (.int .i64 d.n), .val (.int .i64 d.i)], I := I, m := m } 0
def growCon : Con := conL [(34, pcon (growP S zP))]
def setCon : Con := (conL [(31, pcon (bsP S g)), (26, pcon (mayP g))]).draw [(27, dcon (catP S g))]
def rngCon : Con := conL [(31, pcon (bsP S g)), (28, pcon (cloneP S))]
def withinCon : Con := conL [(13, withinC S)]
def textCon : Con := conL [(35, pcon (oneP S g)), (30, pcon (textP S g))]
def playsP : PF := pf (.cons cIs (.cons cP .nil)) (fun _ => True) [.bool false] fun _ => [.bool true]
structure PlL where
  i : Int
  a : List Value
  b : List Value
def playsLs (xs ps : List Value) (I : PlL → Prop) (m : PlL → Nat) : Loops := loop1 { D := PlL, sh := ⟨slotsOf 165 [(0, .one (.zero (.deep zI))), (1, .one (.zero (.deep zP))), (5, .one (.zero (.deep zP))), (6, .one (.zero (.deep zP))), (7, .one (.zero .hole))], []⟩, rho := fun _ => [], fills := fun d => [.dl xs, .dl ps, .dl d.a, .dl d.b, .val (.int .i64 d.i)], I := I, m := m } 0
def playsCon : Con := conL [(15, pcon (keyP S g)), (16, pcon (txtP S g)), (9, pcon (delP S g)), (17, pcon (rdelP S g)), (7, pcon (setP S g)), (18, pcon (rmayP g)), (19, pcon (rsetP S g)), (20, pcon (getP S g)), (21, pcon (rfirstP S g)), (14, pcon (sameP S g)), (11, pcon (rightP S g)), (10, pcon (firstP S g)), (3, closedC (.bool true))]
def cmpCon : Con := conL [(37, cmpC g.cmp)]
def bsCon : Con := conL [(31, pcon (bsP S g))]
end
end Go.Proofs.Ytolkoacllaaceaa
