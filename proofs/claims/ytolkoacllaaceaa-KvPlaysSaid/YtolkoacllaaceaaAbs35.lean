/-
  THE EVALUATOR THAT ASKS: code over states with unknown values; a proposition that, shown, gives the code's outcome.
-/
import Derived.Test.YtolkoacllaaceaaAbs34
import Derived.Test.YtolkoacllaaceaaAbsH
namespace Go.Abs
open Go

noncomputable section
variable (S : Sy)

inductive XR where
  | val (v : Value) (h : Hp)
  | alts (l : List Alt)

def stepX (P : Program) (o : Oper) (s : St) : Option XR :=
  if o.op.operands.toList.all okOperand then
    match kindOf P o.op with
    | .T => match stepT P (evA s.tmps) o with
      | some v => some (.val v s.h)
      | none => match symT S P (evA s.tmps) o s.h with
        | some l => some (.alts l)
        | none => (symDT S P (evA s.tmps) o s.h).map .alts
    | .R => match stepR P (evA s.tmps) o s.h with
      | some v => some (.val v s.h)
      | none => match symR S P (evA s.tmps) o s.h with
        | some l => some (.alts l)
        | none => (symDR S P (evA s.tmps) o s.h).map .alts
    | .N => match symDN P (evA s.tmps) o with
      | some (b, f) => some (.val (f s.h.next) (s.h.push b))
      | none => match stepN P (evA s.tmps) o with
      | some (b, f) => some (.val (f s.h.next) (s.h.push b))
      | none => match symN S P (evA s.tmps) o with
        | some (b, f) => some (.val (f s.h.next) (s.h.push b))
        | none => (symM S P (evA s.tmps) o s.h).map .alts
    | .E => match stepE P (evA s.tmps) o s.h with
      | some (v, h) => some (.val v h)
      | none => (symE S P (evA s.tmps) o s.h).map .alts
    | _ => none
  else none

def condK (c : Option Prop) (X : Prop) : Prop := match c with | none => X | some c => c → X
def obK (c : Option Prop) (X : Prop) : Prop := match c with | none => X | some c => c ∧ X
def altsK : List Alt → (Value → Hp → Prop) → Prop
  | [], _ => True
  | a :: r, K => match r with
    | [] => condK a.cond (obK a.ob (K a.v a.h))
    | _ => condK a.cond (obK a.ob (K a.v a.h)) ∧ altsK r K
/-- Of two ways the one that is told. -/
def tellK (tl : Option Bool) (l : List Alt) (K : Value → Hp → Prop) : Prop :=
  match tl, l with
  | some true, [a, _] => obK a.cond (obK a.ob (K a.v a.h))
  | some false, [_, a] => obK a.cond (obK a.ob (K a.v a.h))
  | _, l => altsK l K
def XR.K (tl : Option Bool) (r : XR) (K : Value → Hp → Prop) : Prop :=
  match r with
  | .val v h => K v h
  | .alts l => tellK tl l K

abbrev CallV := FuncId → List Value → Hp → (Value → Hp → Prop) → Prop
abbrev LFun := List Value → Option Value
/-- Contracts. -/
structure Con where
  con : FuncId → Option (List Value → Hp → (Value → Hp → Prop) → Prop)
  told : Oper → (Operand → Value) → Option Bool
  draws : FuncId → Option (List Value → Hp → (Value → Hp → Prop) → Prop) := fun _ => none
  gen : Oper → Bool := fun _ => false
  pures : FuncId → Option LFun := fun _ => none
  rows : Oper → Bool := fun _ => false
instance : CoeFun Con (fun _ => FuncId → Option (List Value → Hp → (Value → Hp → Prop) → Prop)) := ⟨Con.con⟩
/-- What is told of comparisons: by the slot, the operation. -/
def Con.tell (C : Con) (l : List (Nat × BinOp × Bool)) : Con := { C with told := fun o _ => match o.op, o.dst with
  | .binOp op _ _ _ _, some d => (l.find? fun x => x.1 == d && x.2.1 == op).map (·.2.2)
  | _, _ => none }
/-- Operations whose number is given a letter of its own. -/
def Con.letters (C : Con) (f : Oper → Bool) : Con := { C with gen := f }
/-- What is told, in all words. -/
def Con.tellO (C : Con) (f : Oper → (Operand → Value) → Option Bool) : Con := { C with told := f }
/-- The same, told apart by whether there is a guard. -/
def Con.tellG (C : Con) (l : List (Nat × BinOp × Bool × Bool)) : Con := { C with told := fun o _ => match o.op, o.dst with
  | .binOp op _ _ _ _, some d => (l.find? fun x => x.1 == d && x.2.1 == op && x.2.2.1 == o.guard.isSome).map (·.2.2.2)
  | _, _ => none }

/-- A number that is not worked out is given a letter. -/
def genK (g : Bool) (v : Value) (K : Value → Prop) : Prop :=
  if g then
    if isMark v then match den v with
      | .int k e => ∀ x : Int, S.ieq x e → K (mk (.int k x))
      | _ => K v
    else K v
  else K v
/-- A bool that is not worked out: both ways. -/
def splitK (v : Value) (K : Value → Prop) : Prop :=
  match v with
  | .func (.yield 3) f _ => match f.toList with
    | [.bool b] => (b = true → K (.bool true)) ∧ (b = false → K (.bool false))
    | _ => K v
  | v => K v
/-- rr: operations of which rows are made as before. -/
def opsV (P : Program) (gn rr : Oper → Bool) (tl : Oper → (Operand → Value) → Option Bool) (call : CallV) (ops : Array Oper) : List Oper → St → (St → Prop) → Prop
  | [], s, K => K s
  | o :: rest, s, K =>
    if liveG ops o s.tmps then
      if wantedA ops o s.tmps then
        match kindOf P o.op with
        | .C => if o.op.operands.toList.all okOperand then match o.op with
            | .call c => match callee (evA s.tmps) c with
              | some (f, args) => call f args s.h fun v h => splitK v fun v => opsV P gn rr tl call ops rest ⟨s.put o.dst v, h⟩ K
              | none => S.no o (o.op.operands.toList.map (evA s.tmps))
            | _ => False
          else False
        | _ => match (if rr o then none else stepG S P (evA s.tmps) o s.h) with
          | some l => altsK l fun v h => opsV P gn rr tl call ops rest ⟨s.put o.dst v, h⟩ K
          | none => match stepX S P o s with
            | some r => r.K (tl o (evA s.tmps)) fun v h => genK S (gn o) v fun v => splitK v fun v => opsV P gn rr tl call ops rest ⟨s.put o.dst v, h⟩ K
            | none => S.no o (o.op.operands.toList.map (evA s.tmps))
      else opsV P gn rr tl call ops rest ⟨s.put o.dst undef, s.h⟩ K
    else False

/-- A call inside a region whose order is open, by a contract. -/
def drawCall (D : FuncId → Option (List Value → Hp → (Value → Hp → Prop) → Prop)) (o : Oper) (s : St) : Option ((Value → Hp → Prop) → Prop) :=
  if o.op.operands.toList.all okOperand then match o.op with
    | .call c => match callee (evA s.tmps) c with
      | some (f, args) => (D f).map fun g => g args s.h
      | none => none
    | _ => none
  else none

/-- A call that leaves the heap as it is. -/
def pureCall (D : FuncId → Option LFun) (o : Oper) (s : St) : Option Value :=
  if o.op.operands.toList.all okOperand then match o.op with
    | .call c => match callee (evA s.tmps) c with
      | some (f, args) => match D f with
        | some g => g args
        | none => none
      | none => none
    | _ => none
  else none

/-- A region whose order is open: the states ahead of each operation, and the values. -/
def drawV (P : Program) (gn rr : Oper → Bool) (tl : Oper → (Operand → Value) → Option Bool) (pu : FuncId → Option LFun) (D : FuncId → Option (List Value → Hp → (Value → Hp → Prop) → Prop)) (call : Caller) (ops : Array Oper) : List Oper → St → (List St → List Value → Prop) → Prop
  | [], s, K => K [s] []
  | o :: rest, s, K =>
    if liveG ops o s.tmps then
      if wantedA ops o s.tmps then
        match kindOf P o.op with
        | .C => match pureCall pu o s with
          | some v => splitK v fun v => drawV P gn rr tl pu D call ops rest ⟨s.put o.dst v, s.h⟩ fun tr vs => K (s :: tr) (v :: vs)
          | none => match drawCall D o s with
            | some g => g fun v h => splitK v fun v => drawV P gn rr tl pu D call ops rest ⟨s.put o.dst v, h⟩ fun tr vs => K (s :: tr) (v :: vs)
            | none => match stepO P call o s with
              | some (v, h) => drawV P gn rr tl pu D call ops rest ⟨s.put o.dst v, h⟩ fun tr vs => K (s :: tr) (v :: vs)
              | none => False
        | _ => match (if rr o || !isEff P o then none else stepG S P (evA s.tmps) o s.h) with
          | some l => altsK l fun v h => drawV P gn rr tl pu D call ops rest ⟨s.put o.dst v, h⟩ fun tr vs => K (s :: tr) (v :: vs)
          | none => match stepX S P o s with
          | some r => r.K (tl o (evA s.tmps)) fun v h => genK S (gn o) v fun v => splitK v fun v => drawV P gn rr tl pu D call ops rest ⟨s.put o.dst v, h⟩ fun tr vs => K (s :: tr) (v :: vs)
          | none => S.no o (o.op.operands.toList.map (evA s.tmps))
      else drawV P gn rr tl pu D call ops rest ⟨s.put o.dst undef, s.h⟩ fun tr vs => K (s :: tr) (undef :: vs)
    else False

/-- What is read ahead of and behind an effect that is not in an order with the read. -/
def pairP (P : Program) (ops : Array Oper) (tr : List St) (vs : List Value) (p : Nat × Nat) : Prop :=
  match ops[p.1]?, tr[p.1]?, tr[p.2]?, tr[p.2 + 1]?, vs[p.1]? with
  | some o, some si, some sj, some sk, some v =>
    if wantedA ops o si.tmps then stepR P (evA si.tmps) o sj.h = some v ∧ stepR P (evA si.tmps) o sk.h = some v else True
  | _, _, _, _, _ => False
/-- An operation behind which the heap is as it was. -/
def quietAt (P : Program) (pu : FuncId → Option LFun) (ops : Array Oper) (tr : List St) (k : Nat) : Bool :=
  match ops[k]?, tr[k]? with
  | some o, some s => !wantedA ops o s.tmps || (match kindOf P o.op with | .T => true | .R => true | .C => (pureCall pu o s).isSome | _ => false)
  | _, _ => false
def spanB (f : Nat → Bool) : Nat → Nat → Bool
  | _, 0 => true
  | a, n + 1 => f a && spanB f (a + 1) n
def quietB (P : Program) (pu : FuncId → Option LFun) (ops : Array Oper) (tr : List St) (p : Nat × Nat) : Bool :=
  if p.1 ≤ p.2 then spanB (quietAt P pu ops tr) p.1 (p.2 - p.1 + 1) else spanB (quietAt P pu ops tr) p.2 (p.1 - p.2)
/-- It is seen at once. -/
def pairB (P : Program) (ops : Array Oper) (tr : List St) (vs : List Value) (p : Nat × Nat) : Bool :=
  match ops[p.1]?, tr[p.1]?, tr[p.2]?, tr[p.2 + 1]?, vs[p.1]? with
  | some o, some si, some sj, some sk, some v =>
    !wantedA ops o si.tmps || ((match stepR P (evA si.tmps) o sj.h with | some u => vbeq u v | none => false) && (match stepR P (evA si.tmps) o sk.h with | some u => vbeq u v | none => false))
  | _, _, _, _, _ => false
def pairsP (P : Program) (pu : FuncId → Option LFun) (ops : Array Oper) (tr : List St) (vs : List Value) : List (Nat × Nat) → Prop → Prop
  | [], X => X
  | p :: r, X => if pairB P ops tr vs p then pairsP P pu ops tr vs r X else if quietB P pu ops tr p then pairsP P pu ops tr vs r X else pairP P ops tr vs p ∧ pairsP P pu ops tr vs r X

/-- A loop that is told: its shape at the head of a round; data, what holds of them, what falls. -/
structure LSpec where
  D : Type
  sh : Shape
  rho : St → Rho
  fills : D → List Filler
  I : D → Prop
  m : D → Nat

/-- The first k blocks are those they were. -/
def headOk (k : Nat) (ρ : Rho) : Bool := decide (k ≤ ρ.length) && (List.range k).all fun i => ρ[i]? == some i
def nodupB : List Nat → Bool
  | [] => true
  | x :: l => !l.contains x && nodupB l

def enter (L : LSpec) (k : Nat) (s : St) (K : L.D → Prop) : Prop :=
  match L.sh.mat false (L.rho s) s with
  | some fs => if headOk k (L.rho s) && nodupB (L.rho s) then ∃ d, L.fills d = fs ∧ K d else False
  | none => False

def resK (P : Program) (fn : Func) (K : Value → Hp → Prop) (ex : Ex) (s : St) : Prop :=
  match ex with
  | .normal | .ret => match resultsA P fn s with
    | some v => K v s.h
    | none => False
  | _ => False

/-- Of several shapes the first that is met. -/
def enters (k : Nat) (s : St) (K : (L : LSpec) → L.D → Prop) : List LSpec → Prop
  | [] => False
  | L :: r => match L.sh.mat false (L.rho s) s with
    | some _ => enter L k s (K L)
    | none => enters k s K r
def eachL (F : LSpec → Prop) : List LSpec → Prop
  | [] => True
  | L :: r => match r with
    | [] => F L
    | _ => F L ∧ eachL F r

abbrev Loops := Nat → Option (List LSpec)
def noLoops : Loops := fun _ => none

def callWithV (P : Program) (C : Con) (rc : Nat → Code → St → (Ex → St → Prop) → Prop) : CallV := fun f args h K =>
  match C f with
  | some g => g args h K
  | none => match P.funcs[f]? with
    | none => False
    | some fn => match fn.body with
      | none => match externA fn.name fn.origin args h with
        | some (v, h') => K v h'
        | none => False
      | some c => rc h.next c ⟨args ++ List.replicate (fn.ntmps - args.length) undef, h⟩ (resK P fn K)

/-- Code, with so much fuel; k: the blocks that are protected. -/
def runV (P : Program) (C : Con) (call : Caller) : Nat → Loops → Nat → Code → St → (Ex → St → Prop) → Prop
  | 0, _, _, _, _, _ => False
  | n + 1, LS, k, c, s, K =>
    match c with
    | .skip => K .normal s
    | .label _ => K .normal s
    | .ret => K .ret s
    | .exit id => K (.exit id) s
    | .goto l => K (.goto l) s
    | .region _ ops draw =>
      if draw then
        if staticOk P ops then drawV S P C.gen C.rows C.told C.pures C.draws call ops ops.toList s fun tr vs => pairsP P C.pures ops tr vs (drawPairs P ops) (match tr[ops.size]? with | some s' => K .normal s' | none => False)
        else False
      else opsV S P C.gen C.rows C.told (callWithV P C (runV P C call n noLoops)) ops ops.toList s fun s' => K .normal s'
    | .seq a b => runV P C call n LS k a s fun ex s1 => match ex with
      | .normal => runV P C call n LS k b s1 K
      | .exit id => K (.exit id) s1
      | .goto l => K (.goto l) s1
      | .ret => K .ret s1
    | .cond c a b => if okOperand c then match condA (evA s.tmps c) with
        | some t => runV P C call n LS k (if t then a else b) s K
        | none => False
      else False
    | .block id b => match LS id, b with
      | some Ls, .loop b => enters k s (fun L d => L.I d ∧ eachL (fun L => ∀ d, L.I d → match L.sh.fill (L.fills d) with
          | some s0 => runV P C call n LS k b s0 fun ex s1 => match ex with
            | .normal => enters k s1 (fun L' d' => L'.m d' < L.m d ∧ L'.I d') Ls
            | .exit id' => if id' = id then K .normal s1 else K (.exit id') s1
            | .goto l => K (.goto l) s1
            | .ret => K .ret s1
          | none => False) Ls) Ls
      | _, b => runV P C call n LS k b s fun ex s1 => match ex with
        | .exit id' => if id' = id then K .normal s1 else K (.exit id') s1
        | .normal => K .normal s1
        | .goto l => K (.goto l) s1
        | .ret => K .ret s1
    | .loop b => runV P C call n LS k b s fun ex s1 => match ex with
      | .normal => runV P C call n LS k (.loop b) s1 K
      | .exit id => K (.exit id) s1
      | .goto l => K (.goto l) s1
      | .ret => K .ret s1
    | .scope b => runV P C call n LS k b s fun ex s1 => match ex with
      | .goto l => match findLabel b l with
        | some rest => runV P C call n LS k rest s1 fun ex s2 => match ex with
          | .goto _ => False
          | ex => K ex s2
        | none => False
      | ex => K ex s1
    | _ => False
end

section
variable {P : Program}

theorem symT_step {o : Oper} {s : St} {alts : List Alt} (e : symT std P (evA s.tmps) o s.h = some alts) : AltsOk alts fun a => StepS P o s a.v a.h := by
  obtain ⟨hk, h1, h2⟩ := symT_ok e
  exact ⟨h1, fun a ha hc ho => .T hk (h2 a ha hc ho).1 (h2 a ha hc ho).2⟩
theorem symR_step {o : Oper} {s : St} {alts : List Alt} (e : symR std P (evA s.tmps) o s.h = some alts) : AltsOk alts fun a => StepS P o s a.v a.h := by
  obtain ⟨hk, h1, h2⟩ := symR_ok e
  exact ⟨h1, fun a ha hc ho => .R hk (h2 a ha hc ho).1 (h2 a ha hc ho).2⟩

theorem altsK_ok {G : Alt → Prop} : ∀ {l : List Alt} {K : Value → Hp → Prop}, altsK l K → (∃ a ∈ l, holds a.cond) → (∀ a ∈ l, holds a.cond → holds a.ob → G a) → ∃ a, G a ∧ K a.v a.h
  | [], K, _, h, _ => by obtain ⟨a, ha, _⟩ := h; cases ha
  | a :: r, K, hk, h, hg => by
    have one : condK a.cond (obK a.ob (K a.v a.h)) → holds a.cond → ∃ a, G a ∧ K a.v a.h := by
      intro h1 hc
      have h2 : obK a.ob (K a.v a.h) := by
        unfold condK at h1
        split at h1
        · exact h1
        · rename_i c hcc; rw [hcc] at hc; exact h1 hc
      have h3 : holds a.ob ∧ K a.v a.h := by
        unfold obK at h2
        split at h2
        · rename_i ho; rw [ho]; exact ⟨trivial, h2⟩
        · rename_i ho; rw [ho]; exact h2
      exact ⟨a, hg a List.mem_cons_self hc h3.1, h3.2⟩
    obtain ⟨b, hb, hc⟩ := h
    unfold altsK at hk
    split at hk
    · rw [List.mem_singleton.1 hb] at hc
      exact one hk hc
    · rcases List.mem_cons.1 hb with rfl | hb
      · exact one hk.1 hc
      · exact altsK_ok hk.2 ⟨b, hb, hc⟩ fun a ha => hg a (List.mem_cons_of_mem _ ha)

theorem obK_both {c : Option Prop} {X : Prop} (h : obK c X) : holds c ∧ X := by
  cases c with
  | none => exact ⟨trivial, h⟩
  | some c => exact h
theorem tellK_ok {G : Alt → Prop} {tl : Option Bool} {l : List Alt} {K : Value → Hp → Prop} (hk : tellK tl l K) (h1 : ∃ a ∈ l, holds a.cond) (h2 : ∀ a ∈ l, holds a.cond → holds a.ob → G a) : ∃ a, G a ∧ K a.v a.h := by
  unfold tellK at hk
  split at hk
  · rename_i a b
    have h3 := obK_both hk
    have h4 := obK_both h3.2
    exact ⟨a, h2 a List.mem_cons_self h3.1 h4.1, h4.2⟩
  · rename_i b a
    have h3 := obK_both hk
    have h4 := obK_both h3.2
    exact ⟨a, h2 a (List.mem_cons_of_mem _ List.mem_cons_self) h3.1 h4.1, h4.2⟩
  · exact altsK_ok hk h1 h2

theorem stepX_ok {o : Oper} {s : St} {r : XR} {tl : Option Bool} {K : Value → Hp → Prop} (e : stepX std P o s = some r) (hK : r.K tl K) : o.op.operands.toList.all okOperand = true ∧ ∃ v h, StepS P o s v h ∧ K v h := by
  unfold stepX at e
  split at e
  case isFalse => cases e
  rename_i hok
  refine ⟨hok, ?_⟩
  have fin : ∀ {alts : List Alt}, AltsOk alts (fun a => StepS P o s a.v a.h) → tellK tl alts K → ∃ v h, StepS P o s v h ∧ K v h := fun ha hk => by
    obtain ⟨a, h1, h2⟩ := tellK_ok hk ha.1 ha.2
    exact ⟨a.v, a.h, h1, h2⟩
  split at e
  · rename_i hk
    split at e
    · rename_i v hv
      simp only [Option.some.injEq] at e; subst e
      exact ⟨v, s.h, .T hk rfl fun {μ ρ'} w hr => simT hv hr w, hK⟩
    · split at e
      · rename_i alts h
        simp only [Option.some.injEq] at e; subst e; exact fin (symT_step h) hK
      · cases h : symDT std P (evA s.tmps) o s.h with
        | none => simp [h] at e
        | some alts =>
          simp [h] at e; subst e
          obtain ⟨h1, h2⟩ := symDT_ok h
          exact fin ⟨h2.1, fun a ha hc ho => .T h1 (h2.2 a ha hc ho).1 (h2.2 a ha hc ho).2⟩ hK
  · rename_i hk
    split at e
    · rename_i v hv
      simp only [Option.some.injEq] at e; subst e
      exact ⟨v, s.h, .R hk rfl fun {μ base w ρ'} hr hrel => simR hk hv hr hrel, hK⟩
    · split at e
      · rename_i alts h
        simp only [Option.some.injEq] at e; subst e; exact fin (symR_step h) hK
      · cases h : symDR std P (evA s.tmps) o s.h with
        | none => simp [h] at e
        | some alts =>
          simp [h] at e; subst e
          obtain ⟨h1, h2⟩ := symDR_ok h
          exact fin ⟨h2.1, fun a ha hc ho => .R h1 (h2.2 a ha hc ho).1 ((h2.2 a ha hc ho).2 s.h)⟩ hK
  · rename_i hk
    split at e
    · rename_i b f hv
      simp only [Option.some.injEq] at e; subst e
      exact ⟨_, _, .N hk rfl rfl (symDN_ok hv).2, hK⟩
    split at e
    · rename_i b f hv
      simp only [Option.some.injEq] at e; subst e
      exact ⟨_, _, .N hk rfl rfl fun {μ base w ρ' g} hr hrel {b} hb => simNz hk hv hr hrel hb, hK⟩
    · split at e
      · rename_i b f hv
        simp only [Option.some.injEq] at e; subst e
        obtain ⟨hk', hs⟩ := symN_ok hv
        exact ⟨_, _, .N hk' rfl rfl hs, hK⟩
      · cases h : symM std P (evA s.tmps) o s.h with
        | none => simp [h] at e
        | some alts => simp [h] at e; subst e; exact fin (symM_ok h) hK
  · rename_i hk
    split at e
    · rename_i v h hv
      simp only [Option.some.injEq] at e; subst e
      refine ⟨v, h, .E (by unfold isEff; rw [hk]) (stepE_next hv) fun {μ base w a K Q} hr hrel hf hk => ?_, hK⟩
      unfold Oper.wp
      obtain ⟨w1, μ1, h1⟩ := simE hv hr hrel (fun hlt => hf s.h.next (Nat.le_refl _) hlt)
      rcases h1 with ⟨h1, h2, rfl⟩ | ⟨v', w', μ', h1, h2⟩
      · rw [h2]; exact hk _ w1 μ1 h1
      · rw [h2]; exact hk v' w' μ' h1
    · cases h : symE std P (evA s.tmps) o s.h with
      | none => simp [h] at e
      | some alts => simp [h] at e; subst e; exact fin (symE_ok h) hK
  · cases e

/-- A state, and the model's. -/
structure Cfg (μ : Mu) (base : Nat) (s : St) (a : Act) (w : World) : Prop where
  tmps : TR μ s.tmps a.tmps
  defers : a.defers = []
  rel : Rel μ base s.h.get w
  free : ∀ b, s.h.next ≤ b → μ b = none

/-- Behind some code: the first k blocks are where they were. -/
structure Post (k : Nat) (μ : Mu) (base : Nat) (h : Hp) (w : World) (s' : St) (a' : Act) (w' : World) (μ' : Mu) : Prop where
  cfg : Cfg μ' base s' a' w'
  fr : Fr μ h.get w w'
  own : ∀ b p x, μ' b = some p → s'.h.get b = some x → w.heap.size ≤ p.c ∨ ∃ b0 p0 x0, μ b0 = some p0 ∧ h.get b0 = some x0 ∧ (ownB x = true → ownB x0 = true) ∧ p0.c = p.c
  prot : ∀ i, i < k → μ' i = μ i
  zle : ∀ c i a, μ.z c i = some a → μ'.z c i = some a
  fz : ∀ c i a, μ'.z c i = some a → μ.z c i = some a ∨ w.heap.size ≤ c ∨ ∃ b0 p0 x0, μ b0 = some p0 ∧ h.get b0 = some x0 ∧ ownB x0 = true ∧ p0.c = c

theorem Post.refl {k : Nat} {μ : Mu} {base : Nat} {s : St} {a : Act} {w : World} (h : Cfg μ base s a w) : Post k μ base s.h w s a w μ :=
  ⟨h, Fr.refl _ _ _, fun b p x hb hx => .inr ⟨b, p, x, hb, hx, id, rfl⟩, fun _ _ => rfl, fun _ _ _ h => h, fun _ _ _ h => .inl h⟩
theorem Post.trans {k : Nat} {μ μ1 μ2 : Mu} {base : Nat} {h : Hp} {w w1 w2 : World} {s1 s2 : St} {a1 a2 : Act} (p : Post k μ base h w s1 a1 w1 μ1) (q : Post k μ1 base s1.h w1 s2 a2 w2 μ2) : Post k μ base h w s2 a2 w2 μ2 := by
  refine ⟨q.cfg, ⟨q.fr.os.trans p.fr.os, q.fr.tape.trans p.fr.tape, q.fr.output.trans p.fr.output, Nat.le_trans p.fr.size q.fr.size, fun c hc hn => ?_⟩, fun b x y hb hg => ?_, fun i hi => (q.prot i hi).trans (p.prot i hi), fun c i a h => q.zle c i a (p.zle c i a h), fun c i a hc => ?_⟩
  · rw [q.fr.block c (Nat.lt_of_lt_of_le hc p.fr.size) ?_, p.fr.block c hc hn]
    intro b x y hb hg ho e
    rcases p.own b x y hb hg with h1 | ⟨b0, p0, x0, h1, h2, h3, h4⟩
    · omega
    · exact hn b0 p0 x0 h1 h2 (h3 ho) (h4.trans e)
  · rcases q.own b x y hb hg with h1 | ⟨b0, p0, x0, h1, h2, h3, h4⟩
    · exact .inl (Nat.le_trans p.fr.size h1)
    · rcases p.own b0 p0 x0 h1 h2 with h5 | ⟨b1, p1, x1, h5, h6, h7, h8⟩
      · exact .inl (by omega)
      · exact .inr ⟨b1, p1, x1, h5, h6, fun h => h7 (h3 h), h8.trans h4⟩
  · rcases q.fz c i a hc with h1 | h1 | ⟨b0, p0, x0, h1, h2, ho, h4⟩
    · exact p.fz c i a h1
    · exact .inr (.inl (Nat.le_trans p.fr.size h1))
    · rcases p.own b0 p0 x0 h1 h2 with h5 | ⟨b1, p1, x1, h5, h6, h7, h8⟩
      · exact .inr (.inl (by omega))
      · exact .inr (.inr ⟨b1, p1, x1, h5, h6, h7 ho, h8.trans h4⟩)

theorem Post.weaken {k k' : Nat} {μ μ' : Mu} {base : Nat} {h : Hp} {w w' : World} {s' : St} {a' : Act} (p : Post k μ base h w s' a' w' μ') (hk : k' ≤ k) : Post k' μ base h w s' a' w' μ' :=
  ⟨p.cfg, p.fr, p.own, fun i hi => p.prot i (by omega), p.zle, p.fz⟩

theorem Sim.own' {μ μ' : Mu} {base : Nat} {g g' : Gm} {w w' : World} (h : Sim μ base g w μ' g' w') : ∀ b p x, μ' b = some p → g' b = some x → w.heap.size ≤ p.c ∨ ∃ b0 p0 x0, μ b0 = some p0 ∧ g b0 = some x0 ∧ (ownB x = true → ownB x0 = true) ∧ p0.c = p.c := by
  intro b p x hb hx
  rcases h.own b p x hb hx with h1 | ⟨b0, p0, x0, h1, h2, h3, h4⟩
  · exact .inl h1
  · exact .inr ⟨b0, p0, x0, h1, h2, h3, h4⟩

/-- What is behind a step of an operation. -/
theorem post_out {k : Nat} {μ μ' : Mu} {base : Nat} {s : St} {a : Act} {w w' : World} {o : Oper} {v v' : Value} {h' : Hp} (hc : Cfg μ base s a w) (hk : k ≤ s.h.next) (ho : Out μ base s.h w v h' v' w' μ') :
    Post k μ base s.h w ⟨s.put o.dst v, h'⟩ (a.put o.dst v') w' μ' := by
  refine ⟨⟨TR.put (s := s) (hc.tmps.mono ho.sim.le) o.dst ho.val, by rw [put_defers]; exact hc.defers, ho.sim.rel, fun b hb => ?_⟩, ho.sim.fr, ho.sim.own', fun i hi => ?_, ho.sim.le.z, ho.sim.fz⟩
  · by_cases e : μ' b = μ b
    · rw [e]; exact hc.free b (Nat.le_trans ho.next hb)
    · have hb : h'.next ≤ b := hb
      have := ho.dom b e; omega
  · by_cases e : μ' i = μ i
    · exact e
    · have := ho.dom i e; omega

/-- What a call comes to. -/
structure COut (μ : Mu) (base : Nat) (h : Hp) (w : World) (v : Value) (h' : Hp) (v' : Value) (w' : World) (μ' : Mu) : Prop where
  val : VR μ' v v'
  rel : Rel μ' base h'.get w'
  free : ∀ b, h'.next ≤ b → μ' b = none
  fr : Fr μ h.get w w'
  own : ∀ b p x, μ' b = some p → h'.get b = some x → w.heap.size ≤ p.c ∨ ∃ b0 p0 x0, μ b0 = some p0 ∧ h.get b0 = some x0 ∧ (ownB x = true → ownB x0 = true) ∧ p0.c = p.c
  prot : ∀ i, i < h.next → μ' i = μ i
  next : h.next ≤ h'.next
  zle : ∀ c i a, μ.z c i = some a → μ'.z c i = some a
  fz : ∀ c i a, μ'.z c i = some a → μ.z c i = some a ∨ w.heap.size ≤ c ∨ ∃ b0 p0 x0, μ b0 = some p0 ∧ h.get b0 = some x0 ∧ ownB x0 = true ∧ p0.c = c

def CallSem (P : Program) (f : FuncId) (args : List Value) (h : Hp) (K : Value → Hp → Prop) : Prop :=
  ∀ {μ : Mu} {base : Nat} {w : World} {args' : Array Value}, All2 (VR μ) args args'.toList → Rel μ base h.get w → (∀ b, h.next ≤ b → μ b = none) →
    Does P f args' w fun v' w' => ∃ v h' μ', K v h' ∧ COut μ base h w v h' v' w' μ'
def CallVOk (P : Program) (call : CallV) : Prop := ∀ {f args h K}, call f args h K → CallSem P f args h K
/-- A call whose answer is a function of what is known. -/
def FunSem (P : Program) (f : FuncId) (args : List Value) (h : Hp) (K : Value → Hp → Prop) : Prop :=
  ∃ v h', K v h' ∧ h.next ≤ h'.next ∧ ∀ {μ : Mu} {base : Nat} {w : World} {args' : Array Value}, All2 (VR μ) args args'.toList → Rel μ base h.get w → Fresh μ h.next h'.next →
    Does P f args' w fun v' w' => ∃ μ', Out μ base h w v h' v' w' μ'
def DrawOk (P : Program) (D : FuncId → Option (List Value → Hp → (Value → Hp → Prop) → Prop)) : Prop := ∀ f g, D f = some g → ∀ args h K, g args h K → FunSem P f args h K
def PureOk (P : Program) (D : FuncId → Option LFun) : Prop := ∀ f g, D f = some g → ∀ args v, g args = some v → ∀ h, FunSem P f args h fun v' h' => v' = v ∧ h' = h
structure ConOk (P : Program) (C : Con) : Prop where
  con : ∀ f g, C f = some g → ∀ args h K, g args h K → CallSem P f args h K
  draws : DrawOk P C.draws
  pures : PureOk P C.pures

/-- A triple. -/
def Tri (P : Program) (k : Nat) (c : Code) (s : St) (Q : Ex → St → Prop) : Prop :=
  k ≤ s.h.next → ∀ {μ : Mu} {base : Nat} {a : Act} {w : World} {R : Exit → Act → World → Prop}, Cfg μ base s a w →
    (∀ ex s' a' w' μ', Q ex s' → k ≤ s'.h.next → Post k μ base s.h w s' a' w' μ' → R (exOf ex) a' w') → c.wp P R a w

theorem callee_ok {o : Oper} {c : Call} {s : St} {g : FuncId} {args : List Value} {μ : Mu} {a : Act} (hop : o.op = .call c) (hcal : callee (evA s.tmps) c = some (g, args)) (hr : OpR μ (evA s.tmps) a.eval o.op.operands.toList) :
    ∃ args', (∀ w, (execOp a.eval o).run P w = (callFunc g args').run P w) ∧ All2 (VR μ) args args'.toList := by
  unfold callee at hcal
  split at hcal
  · rename_i f hcf
    split at hcal
    · rename_i g0 first captured hfv
      simp only [Option.some.injEq, Prod.mk.injEq] at hcal
      obtain ⟨rfl, rfl⟩ := hcal
      have hmf : f ∈ o.op.operands.toList := by rw [hop]; simp [Op.operands, Call.operands, hcf]
      have hfr := hr f hmf
      rw [hfv] at hfr
      obtain ⟨first', cap', hfe, h1, h2⟩ := hfr.inv_func rfl
      refine ⟨first' ++ c.args.map a.eval ++ cap', fun w => ?_, ?_⟩
      · unfold execOp
        simp only [hop, resolve, hcf, Deferred.ofValue, hfe, Sem.run_bind, Sem.run_pure, Result.andThen_ok, invoke]
      · rw [Array.toList_append, Array.toList_append, Array.toList_map]
        refine ((h1.mono fun _ _ _ r => .zero r).append (list_rel fun x hx => hr x ?_)).append (h2.mono fun _ _ _ r => .zero r)
        rw [hop]; simp [Op.operands, Call.operands]; exact .inr (by simpa using hx)
    · cases hcal
  · cases hcal

theorem cfg_le {μ μ' : Mu} {h : Hp} (hf : ∀ b, h.next ≤ b → μ b = none) (hp : ∀ i, i < h.next → μ' i = μ i) (hz : ∀ c i a, μ.z c i = some a → μ'.z c i = some a) : Mu.le μ μ' := by
  refine ⟨fun b p hb => ?_, hz⟩
  by_cases hl : b < h.next
  · rw [hp b hl]; exact hb
  · rw [hf b (by omega)] at hb; cases hb

theorem genK_ok {g : Bool} {v : Value} {K : Value → Prop} (h : genK std g v K) : K v := by
  unfold genK at h
  split at h
  · split at h
    · split at h
      · rename_i hm x k e hd
        have h1 := h e rfl
        rcases den_cases v with h2 | ⟨w, h2, h3, h4⟩
        · rw [h2] at hd
          rw [hd] at hm
          exact Bool.noConfusion hm
        · rw [h4] at hd
          rw [hd] at h2
          subst h2
          exact h1
      · exact h
    · exact h
  · exact h
/-- Of two ways one. -/
theorem splitK_ok {v : Value} {K : Value → Prop} (h : splitK v K) : ∃ v1, K v1 ∧ ∀ {μ : Mu} {v' : Value}, VR μ v v' → VR μ v1 v' := by
  unfold splitK at h
  split at h
  · rename_i f y
    split at h
    · rename_i b hf
      have key : ∀ {μ : Mu} {v' : Value}, VR μ (.func (.yield 3) f y) v' → v' = .bool b := fun hr => mkb_inv hf (hr.zero_of_basic rfl)
      cases b with
      | true => exact ⟨_, h.1 rfl, fun hr => by rw [key hr]; exact .plain1 rfl⟩
      | false => exact ⟨_, h.2 rfl, fun hr => by rw [key hr]; exact .plain1 rfl⟩
    · exact ⟨_, h, fun hr => hr⟩
  · exact ⟨_, h, fun hr => hr⟩
theorem StepS.cast {o : Oper} {s : St} {v v1 : Value} {h : Hp} (e : StepS P o s v h) (hv : ∀ {μ : Mu} {v' : Value}, VR μ v v' → VR μ v1 v') : StepS P o s v1 h := by
  cases e with
  | T h1 h2 h3 => exact .T h1 h2 fun {μ ρ'} w hr => let ⟨v', a, b⟩ := h3 w hr; ⟨v', a, hv b⟩
  | R h1 h2 h3 => exact .R h1 h2 fun {μ base w ρ'} hr hrel => let ⟨v', a, b⟩ := h3 hr hrel; ⟨v', a, hv b⟩
  | N h1 h2 h3 h4 =>
    rename_i x f
    refine .N (f := fun b => if b = s.h.next then v1 else f b) h1 (by simp) h3 fun {μ base w ρ' g} hr hrel {b} hb => ?_
    obtain ⟨v', w', p, z, a1, a2, a3⟩ := h4 hr hrel hb
    refine ⟨v', w', p, z, a1, ?_, a3⟩
    by_cases e : b = s.h.next
    · simp only [e, if_true]; rw [← e]; rw [h2, ← e] at hv; exact hv a2
    · simp only [e, if_false]; exact a2
  | E h1 h2 h3 => exact .E h1 h2 fun {μ base w a K Q} hr hrel hf hk => h3 hr hrel hf fun v' w' μ' ho => hk v' w' μ' ⟨hv ho.val, ho.sim, ho.next, ho.dom, ho.keep⟩
theorem opsV_ok {gn rr : Oper → Bool} {tl : Oper → (Operand → Value) → Option Bool} {call : CallV} (hc : CallVOk P call) {ops : Array Oper} {k : Nat} {base : Nat} {Q : Exit → Act → World → Prop} : ∀ {l : List Oper} {s : St} {K : St → Prop}, opsV std P gn rr tl call ops l s K → k ≤ s.h.next →
    ∀ {μ : Mu} {a : Act} {w : World}, Cfg μ base s a w → (∀ s' a' w' μ', K s' → k ≤ s'.h.next → Post k μ base s.h w s' a' w' μ' → Q .normal a' w') → wpList P ops Q l a w
  | [], s, K, e, hk, μ, a, w, hcf, hq => hq s a w μ e hk (Post.refl hcf)
  | o :: l, s, K, e, hk, μ, a, w, hcf, hq => by
    unfold opsV at e
    unfold wpList
    split at e
    case isFalse => exact e.elim
    rename_i hlive
    rw [wanted_rel hcf.tmps ops o hlive]
    split at e
    · rename_i hw
      rw [if_pos hw]
      left
      have other : ∀ {r : XR}, stepX std P o s = some r → (r.K (tl o (evA s.tmps)) fun v h => genK std (gn o) v fun v => splitK v fun v => opsV std P gn rr tl call ops l ⟨s.put o.dst v, h⟩ K) → o.wp P a w (wpList P ops Q l) Q := by
        intro r hr hK
        obtain ⟨hok, v, h, hs, hK⟩ := stepX_ok hr hK
        obtain ⟨v1, hK, hv⟩ := splitK_ok (genK_ok hK)
        have hs := hs.cast hv
        refine hs.sound (opR_of hcf.tmps hok) hcf.rel (fun b h1 _ => hcf.free b h1) fun v' w' μ' ho => ?_
        have hp := post_out (o := o) hcf hk ho
        exact opsV_ok hc hK (Nat.le_trans hk ho.next) hp.cfg fun s' a' w' μ' h1 h2 h3 => hq s' a' w' μ' h1 h2 (hp.trans h3)
      split at e
      · split at e
        case isFalse => exact e.elim
        rename_i hok
        split at e
        case h_2 => exact e.elim
        rename_i c hop
        split at e
        case h_2 => exact (show False from e).elim
        rename_i f args hcal
        have hr := opR_of hcf.tmps hok
        obtain ⟨args', h1, h2⟩ := callee_ok (P := P) hop hcal hr
        unfold Oper.wp
        rw [h1 w]
        have fin : ∀ {v' : Value} {w' : World}, (∃ v h' μ', (splitK v fun v => opsV std P gn rr tl call ops l ⟨s.put o.dst v, h'⟩ K) ∧ COut μ base s.h w v h' v' w' μ') → wpList P ops Q l (a.put o.dst v') w' := by
          rintro v' w' ⟨v0, h', μ', hK, co⟩
          obtain ⟨v, hK, hv⟩ := splitK_ok hK
          have co : COut μ base s.h w v h' v' w' μ' := ⟨hv co.val, co.rel, co.free, co.fr, co.own, co.prot, co.next, co.zle, co.fz⟩
          have hle := cfg_le hcf.free co.prot co.zle
          have hp : Post k μ base s.h w ⟨s.put o.dst v, h'⟩ (a.put o.dst v') w' μ' :=
            ⟨⟨TR.put (s := s) (hcf.tmps.mono hle) o.dst co.val, by rw [put_defers]; exact hcf.defers, co.rel, co.free⟩, co.fr, co.own, fun i hi => co.prot i (by omega), co.zle, co.fz⟩
          exact opsV_ok hc hK (Nat.le_trans hk co.next) hp.cfg fun s' a' w' μ' h1 h2 h3 => hq s' a' w' μ' h1 h2 (hp.trans h3)
        rcases hc e h2 hcf.rel hcf.free with ⟨v', w', h3, h4⟩ | ⟨h3, h4⟩
        · rw [h3]; exact fin h4
        · rw [h3]
          simp only [Oper.upon]
          exact h4.mono fun en w' ⟨v', he, ho⟩ => by subst he; exact fin ho
      · split at e
        · rename_i alts hg
          have hg' : stepG std P (evA s.tmps) o s.h = some alts := by
            split at hg
            · cases hg
            · exact hg
          have hok : o.op.operands.toList.all okOperand = true := by
            unfold stepG at hg'
            split at hg'
            · assumption
            · cases hg'
          have hal := stepG_ok (P := P) hg'
          obtain ⟨al, ⟨h1, h2⟩, hK⟩ := altsK_ok e hal.1 hal.2
          refine h2 (opR_of hcf.tmps hok) hcf.rel (fun b h1 _ => hcf.free b h1) fun v' w' μ' ho => ?_
          have hp : Post k μ base s.h w ⟨s.put o.dst al.v, al.h⟩ (a.put o.dst v') w' μ' := by
            refine ⟨⟨TR.put (s := s) (hcf.tmps.mono ho.sim.le) o.dst ho.val, by rw [put_defers]; exact hcf.defers, ho.sim.rel, fun b hb => ?_⟩, ho.sim.fr, ho.sim.own, fun i hi => ?_, ho.sim.le.z, ho.sim.fz⟩
            · by_cases e : μ' b = μ b
              · rw [e]; exact hcf.free b (Nat.le_trans ho.next hb)
              · have hb : al.h.next ≤ b := hb
                have := ho.dom b e; omega
            · by_cases e : μ' i = μ i
              · exact e
              · have := ho.dom i e; omega
          exact opsV_ok hc hK (Nat.le_trans hk ho.next) hp.cfg fun s' a' w' μ' h1 h2 h3 => hq s' a' w' μ' h1 h2 (hp.trans h3)
        split at e
        · rename_i r hr
          exact other hr e
        · exact (show False from e).elim
    · rename_i hw
      rw [if_neg hw]
      have hp : Post k μ base s.h w ⟨s.put o.dst undef, s.h⟩ (a.put o.dst undef) w μ :=
        ⟨⟨TR.put (s := s) hcf.tmps o.dst (.undef μ), by rw [put_defers]; exact hcf.defers, hcf.rel, hcf.free⟩, Fr.refl _ _ _, fun b p x hb hx => .inr ⟨b, p, x, hb, hx, id, rfl⟩, fun _ _ => rfl, fun _ _ _ h => h, fun _ _ _ h => .inl h⟩
      exact opsV_ok hc e hk hp.cfg fun s' a' w' μ' h1 h2 h3 => hq s' a' w' μ' h1 h2 (hp.trans h3)

/-- A call that is told as one that leaves the heap as it is leaves it so. -/
def Quiet (P : Program) (pu : FuncId → Option LFun) (o : Oper) (s : St) (_ : Value) (h : Hp) : Prop := kindOf P o.op = .C → (pureCall pu o s).isSome = true → h = s.h
/-- A region whose order is open: there is a run in the text's order of which what is asked holds. -/
theorem drawV_ok {gn rr : Oper → Bool} {tl : Oper → (Operand → Value) → Option Bool} {pu : FuncId → Option LFun} (hpu : PureOk P pu) {D : FuncId → Option (List Value → Hp → (Value → Hp → Prop) → Prop)} (hD : DrawOk P D) {call : Caller} (hc : CallOk P call) {ops : Array Oper} : ∀ {l : List Oper} {s : St} {K : List St → List Value → Prop}, drawV std P gn rr tl pu D call ops l s K →
    ∃ tr vs, Run P (Quiet P pu) ops l s tr vs ∧ K tr vs
  | [], s, K, e => ⟨_, _, .nil, e⟩
  | o :: l, s, K, e => by
    unfold drawV at e
    split at e
    case isFalse => exact e.elim
    rename_i hlive
    split at e
    · rename_i hw
      have other : kindOf P o.op ≠ .C → ∀ {r : XR}, stepX std P o s = some r → (r.K (tl o (evA s.tmps)) fun v h => genK std (gn o) v fun v => splitK v fun v => drawV std P gn rr tl pu D call ops l ⟨s.put o.dst v, h⟩ fun tr vs => K (s :: tr) (v :: vs)) → ∃ tr vs, Run P (Quiet P pu) ops (o :: l) s tr vs ∧ K tr vs := by
        intro hkc r hr hK
        obtain ⟨hok, v, h, hs, hK⟩ := stepX_ok hr hK
        obtain ⟨v1, hK, hv⟩ := splitK_ok (genK_ok hK)
        have hs := hs.cast hv
        obtain ⟨tr, vs, h1, h2⟩ := drawV_ok hpu hD hc hK
        exact ⟨_, _, .step hlive hw hok hs (fun hk _ => absurd hk hkc) h1, h2⟩
      split at e
      · rename_i hkind
        have asFun : ∀ {f : FuncId} {args : List Value} {c : Call} {v : Value} {h' : Hp}, o.op.operands.toList.all okOperand = true → o.op = .call c → callee (evA s.tmps) c = some (f, args) → s.h.next ≤ h'.next →
            (∀ {μ : Mu} {base : Nat} {w : World} {args' : Array Value}, All2 (VR μ) args args'.toList → Rel μ base s.h.get w → Fresh μ s.h.next h'.next → Does P f args' w fun v' w' => ∃ μ', Out μ base s.h w v h' v' w' μ') → StepS P o s v h' := by
          intro f args c v h' hok hop hcal hn hdo
          classical
          let call1 : Caller := fun f' a' h0 => if f' = f ∧ a' = args ∧ h0 = s.h then some (v, h') else none
          have hc1 : CallOk P call1 := by
            refine ⟨fun {f' a' h0 v0 h0'} e0 => ?_, fun {f' a' h0 v0 h0'} e0 => ?_⟩
            · simp only [call1] at e0
              split at e0
              · rename_i hx; obtain ⟨rfl, rfl, rfl⟩ := hx
                simp only [Option.some.injEq, Prod.mk.injEq] at e0; obtain ⟨rfl, rfl⟩ := e0
                exact hn
              · cases e0
            · simp only [call1] at e0
              split at e0
              · rename_i hx; obtain ⟨rfl, rfl, rfl⟩ := hx
                simp only [Option.some.injEq, Prod.mk.injEq] at e0; obtain ⟨rfl, rfl⟩ := e0
                exact fun {μ base w args'} hl hr hfr => hdo hl hr hfr
              · cases e0
          have hs : stepO P call1 o s = some (v, h') := by
            unfold stepO
            rw [if_pos hok, hkind]
            simp only [hop, hcal]
            exact if_pos ⟨rfl, rfl, rfl⟩
          exact stepS_of hc1 hs
        split at e
        · rename_i v hpc
          have hpc0 := hpc
          unfold pureCall at hpc
          split at hpc
          case isFalse => cases hpc
          rename_i hok
          split at hpc
          case h_2 => cases hpc
          rename_i c hop
          split at hpc
          case h_2 => cases hpc
          rename_i f args hcal
          split at hpc
          case h_2 => cases hpc
          rename_i g hg
          obtain ⟨v', h', ⟨rfl, rfl⟩, hn, hdo⟩ := hpu f g hg args v hpc s.h
          obtain ⟨v1, e, hv⟩ := splitK_ok e
          obtain ⟨tr, vs, h1, h2⟩ := drawV_ok hpu hD hc e
          exact ⟨_, _, .step hlive hw hok ((asFun hok hop hcal hn hdo).cast hv) (fun _ _ => rfl) h1, h2⟩
        rename_i hpc
        have hnq : ∀ {v : Value} {h : Hp}, Quiet P pu o s v h := fun _ hq => by rw [hpc] at hq; cases hq
        split at e
        · rename_i g hg
          unfold drawCall at hg
          split at hg
          case isFalse => cases hg
          rename_i hok
          split at hg
          case h_2 => cases hg
          rename_i c hop
          split at hg
          case h_2 => cases hg
          rename_i f args hcal
          cases hf : D f with
          | none => rw [hf] at hg; cases hg
          | some gf =>
            rw [hf] at hg
            simp only [Option.map_some, Option.some.injEq] at hg
            subst hg
            obtain ⟨v, h', hK, hn, hdo⟩ := hD f gf hf args s.h _ e
            obtain ⟨v1, hK, hv⟩ := splitK_ok hK
            obtain ⟨tr, vs, h1, h2⟩ := drawV_ok hpu hD hc hK
            exact ⟨_, _, .step hlive hw hok ((asFun hok hop hcal hn hdo).cast hv) hnq h1, h2⟩
        · split at e
          · rename_i v h hs
            obtain ⟨tr, vs, h1, h2⟩ := drawV_ok hpu hD hc e
            exact ⟨_, _, .step hlive hw (stepO_ok hs) (stepS_of hc hs) hnq h1, h2⟩
          · exact e.elim
      · rename_i hkd
        split at e
        · rename_i alts hg
          have hkd : kindOf P o.op ≠ .C := hkd
          have hg' : isEff P o = true ∧ stepG std P (evA s.tmps) o s.h = some alts := by
            split at hg
            · cases hg
            · rename_i hc
              simp only [Bool.or_eq_true, Bool.not_eq_true', not_or, Bool.not_eq_false] at hc
              exact ⟨hc.2, hg⟩
          have hok : o.op.operands.toList.all okOperand = true := by
            have := hg'.2
            unfold stepG at this
            split at this
            · assumption
            · cases this
          have hal := stepG_ok (P := P) hg'.2
          obtain ⟨al, ⟨h1, h2⟩, hK⟩ := altsK_ok e hal.1 hal.2
          obtain ⟨tr, vs, h3, h4⟩ := drawV_ok hpu hD hc hK
          exact ⟨_, _, .step hlive hw hok (.E hg'.1 h1 h2) (fun hk _ => absurd hk hkd) h3, h4⟩
        split at e
        · rename_i r hr
          exact other hkd hr e
        · exact (show False from e).elim
    · rename_i hw
      obtain ⟨tr, vs, h1, h2⟩ := drawV_ok hpu hD hc e
      exact ⟨_, _, .skip hlive (by simpa using hw) h1, h2⟩

theorem pairsP_ok {pu : FuncId → Option LFun} {ops : Array Oper} {tr : List St} {vs : List Value} {X : Prop} : ∀ {l : List (Nat × Nat)}, pairsP P pu ops tr vs l X → (∀ p ∈ l, pairP P ops tr vs p ∨ quietB P pu ops tr p = true) ∧ X
  | [], h => ⟨fun _ hp => (by cases hp), h⟩
  | p :: r, h => by
    have key : pairP P ops tr vs p ∨ quietB P pu ops tr p = true → pairsP P pu ops tr vs r X → (∀ q ∈ p :: r, pairP P ops tr vs q ∨ quietB P pu ops tr q = true) ∧ X := fun hp hr => by
      obtain ⟨h1, h2⟩ := pairsP_ok hr
      exact ⟨fun q hq => by rcases List.mem_cons.1 hq with rfl | hq; exact hp; exact h1 q hq, h2⟩
    unfold pairsP at h
    split at h
    · rename_i hb
      refine key (.inl ?_) h
      unfold pairB at hb
      unfold pairP
      cases e1 : ops[p.1]? with
      | none => simp [e1] at hb
      | some o =>
        cases e2 : tr[p.1]? with
        | none => simp [e1, e2] at hb
        | some si =>
          cases e3 : tr[p.2]? with
          | none => simp [e1, e2, e3] at hb
          | some sj =>
            cases e4 : tr[p.2 + 1]? with
            | none => simp [e1, e2, e3, e4] at hb
            | some sk =>
              cases e5 : vs[p.1]? with
              | none => simp [e1, e2, e3, e4, e5] at hb
              | some v =>
                rw [e1, e2, e3, e4, e5] at hb
                simp only at hb ⊢
                split
                · rename_i hw
                  rw [hw] at hb
                  simp only [Bool.not_true, Bool.false_or, Bool.and_eq_true] at hb
                  obtain ⟨b1, b2⟩ := hb
                  constructor
                  · split at b1
                    · rename_i u hu; rw [hu, vbeq_eq _ _ b1]
                    · cases b1
                  · split at b2
                    · rename_i u hu; rw [hu, vbeq_eq _ _ b2]
                    · cases b2
                · trivial
    · split at h
      · rename_i hq
        exact key (.inr hq) h
      · exact key (.inl h.1) h.2

theorem spanB_at {f : Nat → Bool} : ∀ {a n : Nat}, spanB f a n = true → ∀ k, a ≤ k → k < a + n → f k = true
  | a, 0, _, k, h1, h2 => by omega
  | a, n + 1, h, k, h1, h2 => by
    unfold spanB at h
    simp only [Bool.and_eq_true] at h
    by_cases e : k = a
    · subst e; exact h.1
    · exact spanB_at h.2 k (by omega) (by omega)
theorem heap_span {st : Nat → St} : ∀ {a n : Nat}, (∀ k, a ≤ k → k < a + n → (st (k + 1)).h = (st k).h) → ∀ k, a ≤ k → k ≤ a + n → (st k).h = (st a).h
  | a, 0, _, k, h1, h2 => by rw [show k = a by omega]
  | a, n + 1, h, k, h1, h2 => by
    by_cases e : k = a + (n + 1)
    · subst e
      have h3 := h (a + n) (by omega) (by omega)
      rw [show a + (n + 1) = a + n + 1 by omega, h3]
      exact heap_span (n := n) (fun k h1 h2 => h k h1 (by omega)) (a + n) (by omega) (by omega)
    · exact heap_span (n := n) (fun k h1 h2 => h k h1 (by omega)) k h1 (by omega)

theorem drawV_tri (hm : P.follows .mixedOrders = true) {gn rr : Oper → Bool} {tl : Oper → (Operand → Value) → Option Bool} {pu : FuncId → Option LFun} (hpu : PureOk P pu) {D : FuncId → Option (List Value → Hp → (Value → Hp → Prop) → Prop)} (hD : DrawOk P D) {call : Caller} (hc : CallOk P call) {ops : Array Oper} (hro : ROk ops) {s : St} {K : St → Prop} {id k : Nat} (hst : staticOk P ops = true)
    (e : drawV std P gn rr tl pu D call ops ops.toList s fun tr vs => pairsP P pu ops tr vs (drawPairs P ops) (match tr[ops.size]? with | some s' => K s' | none => False)) : Tri P k (.region id ops true) s fun ex s' => ex = .normal ∧ K s' := by
  intro hk μ base a w R hcf hq
  obtain ⟨tr, vs, hrun, hK⟩ := drawV_ok hpu hD hc e
  obtain ⟨hp, hK⟩ := pairsP_ok hK
  obtain ⟨st, val, ht, hs0, htr, hvs, hD0⟩ := trace_fun hrun
  subst hs0
  rw [htr ops.size (Nat.le_refl _)] at hK
  have hquiet : ∀ k, quietAt P pu ops tr k = true → (st (k + 1)).h = (st k).h := by
    intro k hq
    unfold quietAt at hq
    split at hq
    case h_2 => cases hq
    rename_i o s1 ho hs1
    have hkl := (Array.getElem?_eq_some_iff.1 ho).1
    rw [htr k (by omega)] at hs1
    simp only [Option.some.injEq] at hs1
    subst hs1
    rcases (ht.step ho).1 with ⟨hw, _, hst'⟩ | ⟨_, _, h3⟩
    · rw [hw, Bool.not_true, Bool.false_or] at hq
      cases hst' with
      | T _ h _ => exact h
      | R _ h _ => exact h
      | N hk _ _ _ => rw [hk] at hq; cases hq
      | E he _ _ =>
        unfold isEff at he
        split at hq
        · rename_i hk; rw [hk] at he; cases he
        · rename_i hk; rw [hk] at he; cases he
        · rename_i hk; exact hD0 k o ho hw hk hq
        · cases hq
    · exact h3
  obtain ⟨hn, hcore⟩ := draw_core hm hro hst ht (fun i j oi oj hi hj hki hej hun hw => by
    have hmem : (i, j) ∈ drawPairs P ops := by
      unfold drawPairs
      rw [List.mem_flatMap]
      refine ⟨i, (mem_reads hi).2 (by unfold isRead; rw [hki]), ?_⟩
      rw [List.mem_map]
      exact ⟨j, List.mem_filter.2 ⟨(mem_effs hj).2 hej, hun⟩, rfl⟩
    rcases (hp _ hmem).symm with hq | h1
    · have hil := (Array.getElem?_eq_some_iff.1 hi).1
      have hsem : SemR P (evA (st i).tmps) oi (st i).h (val i) := by
        rcases (ht.step hi).1 with ⟨_, _, hst'⟩ | ⟨hw', _, _⟩
        · cases hst' with
          | T hk _ _ => rw [hki] at hk; cases hk
          | R _ _ h => exact h
          | N hk _ _ _ => rw [hki] at hk; cases hk
          | E he _ _ => unfold isEff at he; rw [hki] at he; cases he
        · rw [hw] at hw'; cases hw'
      have hh : (st j).h = (st i).h ∧ (st (j + 1)).h = (st i).h := by
        unfold quietB at hq
        simp only at hq
        split at hq
        · rename_i hle
          have hsp := heap_span (st := st) (a := i) (n := j - i + 1) fun k h1 h2 => hquiet k (spanB_at hq k h1 h2)
          exact ⟨hsp j (by omega) (by omega), hsp (j + 1) (by omega) (by omega)⟩
        · rename_i hle
          have hsp := heap_span (st := st) (a := j) (n := i - j) fun k h1 h2 => hquiet k (spanB_at hq k h1 h2)
          have h3 := hsp i (by omega) (by omega)
          exact ⟨h3.symm, (hsp (j + 1) (by omega) (by omega)).trans h3.symm⟩
      rw [hh.1, hh.2]
      exact ⟨fun {μ base w ρ'} hr hrel => hsem hr hrel, fun {μ base w ρ'} hr hrel => hsem hr hrel⟩
    have hil := (Array.getElem?_eq_some_iff.1 hi).1
    have hjl := (Array.getElem?_eq_some_iff.1 hj).1
    unfold pairP at h1
    simp only [hi, htr i (by omega), htr j (by omega), htr (j + 1) (by omega), hvs i hil, hw, if_true] at h1
    exact ⟨fun {μ base w ρ'} hr hrel => simR hki h1.1 hr hrel, fun {μ base w ρ'} hr hrel => simR hki h1.2 hr hrel⟩)
  refine hcore hcf.tmps hcf.defers hcf.rel (fun b h1 _ => hcf.free b h1) fun a' w' μ' so => ?_
  refine hq .normal (st ops.size) a' w' μ' ⟨rfl, hK⟩ (Nat.le_trans hk hn) ⟨⟨so.tmps, so.defers, so.sim.rel, fun b hb => ?_⟩, so.sim.fr, so.sim.own', fun i hi => ?_, so.sim.le.z, so.sim.fz⟩
  · by_cases e : μ' b = μ b
    · rw [e]; exact hcf.free b (by omega)
    · have := so.dom b e; omega
  · by_cases e : μ' i = μ i
    · exact e
    · have := so.dom i e; omega

theorem headOk_spec {k : Nat} {ρ : Rho} (h : headOk k ρ = true) : k ≤ ρ.length ∧ ∀ i, i < k → ρ[i]? = some i := by
  unfold headOk at h
  simp only [Bool.and_eq_true, decide_eq_true_eq, List.all_eq_true, List.mem_range, beq_iff_eq] at h
  exact h
theorem nodupB_spec : ∀ {l : List Nat}, nodupB l = true → l.Nodup
  | [], _ => List.nodup_nil
  | x :: l, h => by
    unfold nodupB at h
    simp only [Bool.and_eq_true, Bool.not_eq_true', List.contains_eq_mem, decide_eq_false_iff_not] at h
    exact List.nodup_cons.2 ⟨h.1, nodupB_spec h.2⟩

/-- At the head of a loop: what is not needed is forgotten. -/
theorem enter_ok {L : LSpec} {k : Nat} {s : St} {K : L.D → Prop} (e : enter L k s K) : ∃ d, K d ∧ ∀ {s0 : St}, L.sh.fill (L.fills d) = some s0 →
    ∀ {μ : Mu} {base : Nat} {a : Act} {w : World}, Cfg μ base s a w → ∃ μ0, Post k μ base s.h w s0 a w μ0 ∧ k ≤ s0.h.next := by
  unfold enter at e
  split at e
  · rename_i fs hm
    split at e
    · rename_i hc
      simp only [Bool.and_eq_true] at hc
      obtain ⟨d, rfl, hK⟩ := e
      refine ⟨d, hK, fun {s0} hf {μ base a w} hcf => ?_⟩
      obtain ⟨h1, h2, h3, h4⟩ := shape_ok hm hf (nodupB_spec hc.2) hcf.tmps hcf.rel hcf.free
      obtain ⟨h5, h6⟩ := headOk_spec hc.1
      refine ⟨_, ⟨⟨h2, hcf.defers, h3, fun b hb => ?_⟩, ⟨rfl, rfl, rfl, Nat.le_refl _, fun _ _ _ => rfl⟩, fun b p x hb hx => ?_, fun i hi => ?_, (muF_le hcf.rel _).z, fun c i a h => freeze_sim _ c i a h⟩, by omega⟩
      · show ((L.rho s)[b]?).bind μ.f = none
        rw [List.getElem?_eq_none (by omega)]; rfl
      · obtain ⟨b0, x0, h7, h8, h9⟩ := h4 b x p hx hb
        have hb : ((L.rho s)[b]?).bind μ.f = some p := hb
        rw [h7] at hb
        exact .inr ⟨b0, p, x0, hb, h8, h9.1, rfl⟩
      · show ((L.rho s)[i]?).bind μ.f = μ.f i
        rw [h6 i hi]; rfl
    · exact e.elim
  · exact e.elim

theorem enters_ok {k : Nat} {s : St} {K : (L : LSpec) → L.D → Prop} : ∀ {l : List LSpec}, enters k s K l → ∃ L, L ∈ l ∧ ∃ d : L.D, K L d ∧ ∀ {s0 : St}, L.sh.fill (L.fills d) = some s0 →
    ∀ {μ : Mu} {base : Nat} {a : Act} {w : World}, Cfg μ base s a w → ∃ μ0, Post k μ base s.h w s0 a w μ0 ∧ k ≤ s0.h.next
  | [], e => e.elim
  | L :: r, e => by
    unfold enters at e
    split at e
    · obtain ⟨d, h⟩ := enter_ok e
      exact ⟨L, List.mem_cons_self, d, h⟩
    · obtain ⟨L', h1, h2⟩ := enters_ok e
      exact ⟨L', List.mem_cons_of_mem _ h1, h2⟩
theorem eachL_get {F : LSpec → Prop} : ∀ {l : List LSpec}, eachL F l → ∀ L ∈ l, F L
  | [], _, L, h => by cases h
  | [L], e, L', h => by
    have : L' = L := by simpa using h
    subst this; exact e
  | L :: L2 :: r, e, L', h => by
    have e : F L ∧ eachL F (L2 :: r) := e
    rcases List.mem_cons.1 h with rfl | h
    · exact e.1
    · exact eachL_get e.2 L' h

theorem Tri.mono {k : Nat} {c : Code} {s : St} {Q Q' : Ex → St → Prop} (h : Tri P k c s Q) (hq : ∀ ex s', Q ex s' → Q' ex s') : Tri P k c s Q' :=
  fun hk {_ _ _ _ _} hcf hr => h hk hcf fun ex s' a' w' μ' h1 h2 h3 => hr ex s' a' w' μ' (hq ex s' h1) h2 h3

theorem tri_here {k : Nat} {c : Code} {s : St} {ex : Ex} {K : Ex → St → Prop} (h : ∀ {R : Exit → Act → World → Prop} {a : Act} {w : World}, R (exOf ex) a w → c.wp P R a w) (e : K ex s) : Tri P k c s K :=
  fun hk {_ _ a w _} hcf hq => h (hq ex s a w _ e hk (Post.refl hcf))

/-- A loop from the head of a round. -/
def TriL (P : Program) (k : Nat) (c : Code) (s : St) (Q : Ex → St → Prop) : Prop :=
  k ≤ s.h.next → ∀ {μ : Mu} {base : Nat} {a : Act} {w : World} {R : Exit → Act → World → Prop}, Cfg μ base s a w →
    (∀ ex s' a' w' μ', Q ex s' → k ≤ s'.h.next → Post k μ base s.h w s' a' w' μ' → R (exOf ex) a' w') → wpLoop P c R a w

/-- THE EVALUATOR THAT ASKS IS SOUND. -/
theorem runV_ok (hP : ProgOk P) {C : Con} (hC : ConOk P C) {call : Caller} (hcall : CallOk P call) : ∀ (n : Nat),
    (∀ (LS : Loops) (kp : Nat) (c : Code) (s : St) (K : Ex → St → Prop), OkCode c → runV std P C call n LS kp c s K → ∀ k, k ≤ kp → Tri P k c s K) ∧
    (∀ (LS : Loops) (kp : Nat) (c : Code) (s : St) (K : Ex → St → Prop), OkCode c → runV std P C call n LS kp (.loop c) s K → ∀ k, k ≤ kp → TriL P k c s K) := by
  intro n
  induction n with
  | zero => exact ⟨fun _ _ _ _ _ _ e => (by unfold runV at e; exact e.elim), fun _ _ _ _ _ _ e => (by unfold runV at e; exact e.elim)⟩
  | succ n ihn =>
    obtain ⟨ih, ihl⟩ := ihn
    have hcv : CallVOk P (callWithV P C (runV std P C call n noLoops)) := by
      intro f args h K e
      unfold callWithV at e
      split at e
      · rename_i g hg
        exact hC.con f g hg args h K e
      · split at e
        · exact e.elim
        · rename_i fn hfn
          intro μ base w args' hl hrel hfree
          split at e
          · rename_i hb
            split at e
            · rename_i v h' he
              obtain ⟨v', w', μ', h1, ho⟩ := externA_run he hl hrel (fun _ => hfree h.next (Nat.le_refl _)) hfn hb
              refine .inl ⟨v', w', h1, v, h', μ', e, ho.val, ho.sim.rel, fun b hb => ?_, ho.sim.fr, ho.sim.own', fun i hi => ?_, ho.next, ho.sim.le.z, ho.sim.fz⟩
              · by_cases e : μ' b = μ b
                · rw [e]; exact hfree b (Nat.le_trans ho.next hb)
                · have := ho.dom b e; omega
              · by_cases e : μ' i = μ i
                · exact e
                · have := ho.dom i e; omega
            · exact e.elim
          · rename_i c hb
            have htr : TR μ (args ++ List.replicate (fn.ntmps - args.length) undef) (args' ++ Array.replicate (fn.ntmps - args'.size) undef) := by
              unfold TR
              rw [Array.toList_append, Array.toList_replicate]
              have : args.length = args'.size := by rw [hl.1, Array.length_toList]
              rw [this]
              exact hl.append (All2.replicate _ (.undef μ))
            refine .inr ⟨?_, ?_⟩
            · have hn := hP.name hfn
              simp [callFunc, hfn, hn, hb]
            · refine calls_of_wp hfn hb ?_
              refine ih noLoops h.next c _ _ (hP.code hfn hb) e h.next (Nat.le_refl _) (Nat.le_refl _) ⟨htr, rfl, hrel, hfree⟩ fun ex s' a' w' μ' hK hk hp => ?_
              have key : ∀ {v : Value}, resultsA P fn s' = some v → K v s'.h → ∃ v', (results fn a'.tmps).run P w' = .ok v' w' ∧ ∃ v h' μ', K v h' ∧ COut μ base h w v h' v' w' μ' := by
                intro v hres hK
                obtain ⟨v', h2, h3⟩ := resultsA_run hres hp.cfg.tmps hp.cfg.rel
                exact ⟨v', h2, v, s'.h, μ', hK, h3, hp.cfg.rel, hp.cfg.free, hp.fr, hp.own, hp.prot, hk, hp.zle, hp.fz⟩
              unfold resK at hK
              split at hK
              · split at hK
                · rename_i v hres
                  obtain ⟨v', h2, h3⟩ := key hres hK
                  exact ⟨hp.cfg.defers, v', h2, v', rfl, h3⟩
                · exact hK.elim
              · split at hK
                · rename_i v hres
                  obtain ⟨v', h2, h3⟩ := key hres hK
                  exact ⟨hp.cfg.defers, v', h2, v', rfl, h3⟩
                · exact hK.elim
              · exact hK.elim
    have hl : ∀ (LS : Loops) (kp : Nat) (c : Code) (s : St) (K : Ex → St → Prop), OkCode c → runV std P C call (n + 1) LS kp (.loop c) s K → ∀ k, k ≤ kp → TriL P k c s K := by
      intro LS kp b s K hok e k hk hkn μ base a w R hcf hq
      rw [runV] at e
      refine wpLoop_round (ih LS kp b s _ hok e k hk hkn hcf fun ex s1 a1 w1 μ1 h1 h2 h3 => ?_)
      cases ex with
      | normal => exact ihl LS kp b s1 K hok h1 k hk h2 h3.cfg fun ex s' a' w' μ' h4 h5 h6 => hq ex s' a' w' μ' h4 h5 (h3.trans h6)
      | exit id => exact hq _ s1 a1 w1 μ1 h1 h2 h3
      | goto l => exact hq _ s1 a1 w1 μ1 h1 h2 h3
      | ret => exact hq _ s1 a1 w1 μ1 h1 h2 h3
    refine ⟨?_, hl⟩
    intro LS kp c s K hok e k hk
    have plainBlock : ∀ {id : Nat} {b : Code}, OkCode b → (runV std P C call n LS kp b s fun ex s1 => match ex with
        | .exit id' => if id' = id then K .normal s1 else K (.exit id') s1
        | .normal => K .normal s1
        | .goto l => K (.goto l) s1
        | .ret => K .ret s1) → Tri P k (.block id b) s K := by
      intro id b hokb e hkn μ base a w R hcf hq
      refine wp_block (ih LS kp b s _ hokb e k hk hkn hcf fun ex s1 a1 w1 μ1 h1 h2 h3 => ?_)
      cases ex with
      | exit id' =>
        simp only at h1
        split at h1
        · rename_i hid
          simp only [exOf, Exit.inBlock, hid, if_true]
          exact hq _ s1 a1 w1 μ1 h1 h2 h3
        · rename_i hid
          simp only [exOf, Exit.inBlock, hid, if_false]
          exact hq _ s1 a1 w1 μ1 h1 h2 h3
      | normal => exact hq _ s1 a1 w1 μ1 h1 h2 h3
      | goto l => exact hq _ s1 a1 w1 μ1 h1 h2 h3
      | ret => exact hq _ s1 a1 w1 μ1 h1 h2 h3
    unfold runV at e
    split at e
    · exact tri_here (ex := .normal) (fun h => wp_skip h) e
    · exact tri_here (ex := .normal) (fun h => wp_label h) e
    · exact tri_here (ex := .ret) (fun h => wp_ret h) e
    · exact tri_here (ex := .exit _) (fun h => wp_exit h) e
    · exact tri_here (ex := .goto _) (fun h => wp_goto h) e
    · -- a region
      rename_i id ops draw
      split at e
      · rename_i hd
        subst hd
        split at e
        · rename_i hst
          exact (drawV_tri hP.mixed hC.pures hC.draws hcall (hok rfl) hst e).mono fun ex s' h => by rw [h.1]; exact h.2
        · exact e.elim
      · rename_i hd
        have hd' : draw = false := by simpa using hd
        subst hd'
        intro hkn μ base a w R hcf hq
        exact wp_region_list (opsV_ok hcv e hkn hcf fun s' a' w' μ' h1 h2 h3 => hq .normal s' a' w' μ' h1 h2 h3)
    · -- one behind the other
      rename_i a b
      intro hkn μ base a1 w R hcf hq
      refine wp_seq (ih LS kp a s _ hok.1 e k hk hkn hcf fun ex s1 a2 w2 μ1 h1 h2 h3 => ?_)
      cases ex with
      | normal => exact ih LS kp b s1 K hok.2 h1 k hk h2 h3.cfg fun ex s' a' w' μ' h4 h5 h6 => hq ex s' a' w' μ' h4 h5 (h3.trans h6)
      | exit id => exact hq _ s1 a2 w2 μ1 h1 h2 h3
      | goto l => exact hq _ s1 a2 w2 μ1 h1 h2 h3
      | ret => exact hq _ s1 a2 w2 μ1 h1 h2 h3
    · -- a test
      rename_i c a b
      split at e
      · rename_i hop
        split at e
        · rename_i t hc
          have hb : evA s.tmps c = .bool t := by
            unfold condA at hc
            split at hc
            · rename_i b' hb'; simp at hc; subst hc; exact hb'
            · cases hc
          intro hkn μ base a1 w R hcf hq
          have hev := eval_rel (μ := μ) hcf.tmps hop
          rw [hb] at hev
          exact wp_cond hev.inv_bool (ih LS kp (if t then a else b) s K (by cases t <;> first | exact hok.1 | exact hok.2) e k hk hkn hcf hq)
        · exact e.elim
      · exact e.elim
    · -- a block
      rename_i id b
      split at e
      · rename_i Ls b hL
        obtain ⟨L0, hL0, d0, ⟨hI0, hround'⟩, hent⟩ := enters_ok e
        have hround := eachL_get hround'
        -- the rounds, by what falls
        have loop : ∀ (m : Nat) (L : LSpec) (_ : L ∈ Ls) (d : L.D), L.m d ≤ m → L.I d → ∀ {s0 : St}, L.sh.fill (L.fills d) = some s0 → k ≤ s0.h.next → ∀ {μ : Mu} {base : Nat} {a : Act} {w : World} {R : Exit → Act → World → Prop}, Cfg μ base s0 a w →
            (∀ ex s' a' w' μ', (match ex with | .exit id' => if id' = id then K .normal s' else K (.exit id') s' | .normal => False | .goto l => K (.goto l) s' | .ret => K .ret s') → k ≤ s'.h.next → Post k μ base s0.h w s' a' w' μ' → R (exOf ex) a' w') → wpLoop P b R a w := by
          intro m
          induction m with
          | zero =>
            intro L hLm d hm hI s0 hf hkn μ base a w R hcf hq
            have e := hround L hLm d hI
            rw [hf] at e
            simp only at e
            refine wpLoop_round (ih LS kp b s0 _ hok e k hk hkn hcf fun ex s1 a1 w1 μ1 h1 h2 h3 => ?_)
            cases ex with
            | normal =>
              obtain ⟨L', _, d', ⟨hm', _⟩, _⟩ := enters_ok h1
              omega
            | exit id' => exact hq (.exit id') s1 a1 w1 μ1 h1 h2 h3
            | goto l => exact hq _ s1 a1 w1 μ1 h1 h2 h3
            | ret => exact hq _ s1 a1 w1 μ1 h1 h2 h3
          | succ m ihm =>
            intro L hLm d hm hI s0 hf hkn μ base a w R hcf hq
            have e := hround L hLm d hI
            rw [hf] at e
            simp only at e
            refine wpLoop_round (ih LS kp b s0 _ hok e k hk hkn hcf fun ex s1 a1 w1 μ1 h1 h2 h3 => ?_)
            cases ex with
            | normal =>
              obtain ⟨L', hLm', d', ⟨hm', hI'⟩, hent'⟩ := enters_ok h1
              have e' := hround L' hLm' d' hI'
              cases hf' : L'.sh.fill (L'.fills d') with
              | none => rw [hf'] at e'; exact e'.elim
              | some s0' =>
                obtain ⟨μ0, hp0, hk0⟩ := hent' hf' h3.cfg
                exact ihm L' hLm' d' (by omega) hI' hf' (by omega) (hp0.cfg) fun ex s' a' w' μ' h4 h5 h6 => hq ex s' a' w' μ' h4 h5 ((h3.trans (hp0.weaken hk)).trans h6)
            | exit id' => exact hq (.exit id') s1 a1 w1 μ1 h1 h2 h3
            | goto l => exact hq _ s1 a1 w1 μ1 h1 h2 h3
            | ret => exact hq _ s1 a1 w1 μ1 h1 h2 h3
        intro hkn μ base a w R hcf hq
        have e' := hround L0 hL0 d0 hI0
        cases hf : L0.sh.fill (L0.fills d0) with
        | none => rw [hf] at e'; exact e'.elim
        | some s0 =>
          obtain ⟨μ0, hp0, hk0⟩ := hent hf hcf
          refine wp_block (wp_of_wpLoop (loop (L0.m d0) L0 hL0 d0 (Nat.le_refl _) hI0 hf (by omega) hp0.cfg fun ex s' a' w' μ' h4 h5 h6 => ?_))
          have hp := (hp0.weaken hk).trans h6
          cases ex with
          | exit id' =>
            simp only at h4
            split at h4
            · rename_i hid
              simp only [exOf, Exit.inBlock, hid, if_true]
              exact hq _ s' a' w' μ' h4 h5 hp
            · rename_i hid
              simp only [exOf, Exit.inBlock, hid, if_false]
              exact hq _ s' a' w' μ' h4 h5 hp
          | normal => exact h4.elim
          | goto l => exact hq _ s' a' w' μ' h4 h5 hp
          | ret => exact hq _ s' a' w' μ' h4 h5 hp
      · exact plainBlock hok e
    · -- a loop
      rename_i b
      have h1 := hl LS kp b s K hok (by rw [runV]; exact e) k hk
      exact fun hkn {μ base a w R} hcf hq => wp_of_wpLoop (h1 hkn hcf hq)
    · -- a scope
      rename_i b
      intro hkn μ base a w R hcf hq
      refine wp_scope_fwd (ih LS kp b s _ hok e k hk hkn hcf fun ex s1 a1 w1 μ1 h1 h2 h3 => ?_)
      cases ex with
      | normal => exact hq _ s1 a1 w1 μ1 h1 h2 h3
      | exit id => exact hq _ s1 a1 w1 μ1 h1 h2 h3
      | ret => exact hq _ s1 a1 w1 μ1 h1 h2 h3
      | goto l =>
        simp only at h1
        split at h1
        · rename_i rest hl
          refine ⟨rest, hl, ih LS kp rest s1 _ (okCode_label hl hok) h1 k hk h2 h3.cfg fun ex s2 a2 w2 μ2 h4 h5 h6 => ?_⟩
          cases ex with
          | goto _ => exact h4.elim
          | normal => exact hq _ s2 a2 w2 μ2 h4 h5 (h3.trans h6)
          | exit id => exact hq _ s2 a2 w2 μ2 h4 h5 (h3.trans h6)
          | ret => exact hq _ s2 a2 w2 μ2 h4 h5 (h3.trans h6)
        · exact h1.elim
    · exact e.elim
end
end Go.Abs
