/-
  THE FAST TWIN of the evaluator that asks: slots in a tree; it asks what the evaluator asks.
-/
import Derived.Test.YtolkoacllaaceaaAbs39
namespace Go.Abs
open Go

noncomputable section
variable (S : Sy)

def stepXF (m : Nat) (P : Program) (o : Oper) (t : Vt) (h : Hp) : Option XR :=
  if o.op.operands.toList.all okOperand then
    match kindOf P o.op with
    | .T => match stepT P (evF m t) o with
      | some v => some (.val v h)
      | none => match symT S P (evF m t) o h with
        | some l => some (.alts l)
        | none => (symDT S P (evF m t) o h).map .alts
    | .R => match stepR P (evF m t) o h with
      | some v => some (.val v h)
      | none => match symR S P (evF m t) o h with
        | some l => some (.alts l)
        | none => (symDR S P (evF m t) o h).map .alts
    | .N => match symDN P (evF m t) o with
      | some (b, f) => some (.val (f h.next) (h.push b))
      | none => match stepN P (evF m t) o with
      | some (b, f) => some (.val (f h.next) (h.push b))
      | none => match symN S P (evF m t) o with
        | some (b, f) => some (.val (f h.next) (h.push b))
        | none => (symM S P (evF m t) o h).map .alts
    | .E => match stepE P (evF m t) o h with
      | some (v, h) => some (.val v h)
      | none => (symE S P (evF m t) o h).map .alts
    | _ => none
  else none
theorem stepXF_eq (m : Nat) (P : Program) (o : Oper) (t : Vt) (h : Hp) : stepX S P o ⟨listF m t, h⟩ = stepXF S m P o t h := by
  unfold stepX stepXF
  rw [show evA (⟨listF m t, h⟩ : St).tmps = evF m t from evF_eq m t]
  rfl

def opsVF (m : Nat) (P : Program) (gn rr : Oper → Bool) (tl : Oper → (Operand → Value) → Option Bool) (call : CallV) (ops : Array Oper) : List Oper → Vt → Hp → (Vt → Hp → Prop) → Prop
  | [], t, h, K => K t h
  | o :: rest, t, h, K =>
    if liveF m ops o t then
      if wantedF m ops o t then
        match kindOf P o.op with
        | .C => if o.op.operands.toList.all okOperand then match o.op with
            | .call c => match callee (evF m t) c with
              | some (f, args) => call f args h fun v h => splitK v fun v => opsVF m P gn rr tl call ops rest (putF m t o.dst v) h K
              | none => S.no o (o.op.operands.toList.map (evF m t))
            | _ => False
          else False
        | _ => match (if rr o then none else stepG S P (evF m t) o h) with
          | some l => altsK l fun v h => opsVF m P gn rr tl call ops rest (putF m t o.dst v) h K
          | none => match stepXF S m P o t h with
            | some r => r.K (tl o (evF m t)) fun v h => genK S (gn o) v fun v => splitK v fun v => opsVF m P gn rr tl call ops rest (putF m t o.dst v) h K
            | none => S.no o (o.op.operands.toList.map (evF m t))
      else opsVF m P gn rr tl call ops rest (putF m t o.dst undef) h K
    else False
theorem opsVF_eq (m : Nat) (P : Program) (gn rr : Oper → Bool) (tl : Oper → (Operand → Value) → Option Bool) (call : CallV) (ops : Array Oper) : ∀ (l : List Oper) (t : Vt) (h : Hp) (K : St → Prop), opsV S P gn rr tl call ops l ⟨listF m t, h⟩ K = opsVF S m P gn rr tl call ops l t h fun t h => K (stF m ⟨t, h⟩)
  | [], t, h, K => rfl
  | o :: rest, t, h, K => by
    have ih : ∀ v h', opsV S P gn rr tl call ops rest ⟨St.put ⟨listF m t, h⟩ o.dst v, h'⟩ K = opsVF S m P gn rr tl call ops rest (putF m t o.dst v) h' fun t h => K (stF m ⟨t, h⟩) := by
      intro v h'
      rw [putF_eq]
      exact opsVF_eq m P gn rr tl call ops rest _ _ K
    unfold opsV opsVF
    simp only [ih, liveF_eq, wantedF_eq, stepXF_eq, evF_eq]
    rfl

def drawCallF (m : Nat) (D : FuncId → Option (List Value → Hp → (Value → Hp → Prop) → Prop)) (o : Oper) (t : Vt) (h : Hp) : Option ((Value → Hp → Prop) → Prop) :=
  if o.op.operands.toList.all okOperand then match o.op with
    | .call c => match callee (evF m t) c with
      | some (f, args) => (D f).map fun g => g args h
      | none => none
    | _ => none
  else none
theorem drawCallF_eq (m : Nat) (D : FuncId → Option (List Value → Hp → (Value → Hp → Prop) → Prop)) (o : Oper) (t : Vt) (h : Hp) : drawCall D o ⟨listF m t, h⟩ = drawCallF m D o t h := by
  unfold drawCall drawCallF
  rw [show evA (⟨listF m t, h⟩ : St).tmps = evF m t from evF_eq m t]
  rfl
def pureCallF (m : Nat) (D : FuncId → Option LFun) (o : Oper) (t : Vt) : Option Value :=
  if o.op.operands.toList.all okOperand then match o.op with
    | .call c => match callee (evF m t) c with
      | some (f, args) => match D f with
        | some g => g args
        | none => none
      | none => none
    | _ => none
  else none
theorem pureCallF_eq (m : Nat) (D : FuncId → Option LFun) (o : Oper) (t : Vt) (h : Hp) : pureCall D o ⟨listF m t, h⟩ = pureCallF m D o t := by
  unfold pureCall pureCallF
  rw [show evA (⟨listF m t, h⟩ : St).tmps = evF m t from evF_eq m t]
  rfl
def drawVF (m : Nat) (P : Program) (gn rr : Oper → Bool) (tl : Oper → (Operand → Value) → Option Bool) (pu : FuncId → Option LFun) (D : FuncId → Option (List Value → Hp → (Value → Hp → Prop) → Prop)) (call : Caller) (ops : Array Oper) : List Oper → Vt → Hp → (List Sf → List Value → Prop) → Prop
  | [], t, h, K => K [⟨t, h⟩] []
  | o :: rest, t, h, K =>
    if liveF m ops o t then
      if wantedF m ops o t then
        match kindOf P o.op with
        | .C => match pureCallF m pu o t with
          | some v => splitK v fun v => drawVF m P gn rr tl pu D call ops rest (putF m t o.dst v) h fun tr vs => K (⟨t, h⟩ :: tr) (v :: vs)
          | none => match drawCallF m D o t h with
            | some g => g fun v h' => splitK v fun v => drawVF m P gn rr tl pu D call ops rest (putF m t o.dst v) h' fun tr vs => K (⟨t, h⟩ :: tr) (v :: vs)
            | none => match stepF m P call o t h with
              | some (v, h') => drawVF m P gn rr tl pu D call ops rest (putF m t o.dst v) h' fun tr vs => K (⟨t, h⟩ :: tr) (v :: vs)
              | none => False
        | _ => match (if rr o || !isEff P o then none else stepG S P (evF m t) o h) with
          | some l => altsK l fun v h' => drawVF m P gn rr tl pu D call ops rest (putF m t o.dst v) h' fun tr vs => K (⟨t, h⟩ :: tr) (v :: vs)
          | none => match stepXF S m P o t h with
          | some r => r.K (tl o (evF m t)) fun v h' => genK S (gn o) v fun v => splitK v fun v => drawVF m P gn rr tl pu D call ops rest (putF m t o.dst v) h' fun tr vs => K (⟨t, h⟩ :: tr) (v :: vs)
          | none => S.no o (o.op.operands.toList.map (evF m t))
      else drawVF m P gn rr tl pu D call ops rest (putF m t o.dst undef) h fun tr vs => K (⟨t, h⟩ :: tr) (undef :: vs)
    else False
theorem drawVF_eq (m : Nat) (P : Program) (gn rr : Oper → Bool) (tl : Oper → (Operand → Value) → Option Bool) (pu : FuncId → Option LFun) (D : FuncId → Option (List Value → Hp → (Value → Hp → Prop) → Prop)) (call : Caller) (ops : Array Oper) : ∀ (l : List Oper) (t : Vt) (h : Hp) (K : List St → List Value → Prop), drawV S P gn rr tl pu D call ops l ⟨listF m t, h⟩ K = drawVF S m P gn rr tl pu D call ops l t h fun tr vs => K (tr.map (stF m)) vs
  | [], t, h, K => rfl
  | o :: rest, t, h, K => by
    have ih : ∀ v h', drawV S P gn rr tl pu D call ops rest ⟨St.put ⟨listF m t, h⟩ o.dst v, h'⟩ (fun tr vs => K (⟨listF m t, h⟩ :: tr) (v :: vs)) = drawVF S m P gn rr tl pu D call ops rest (putF m t o.dst v) h' fun tr vs => K (⟨listF m t, h⟩ :: tr.map (stF m)) (v :: vs) := by
      intro v h'
      rw [putF_eq]
      exact drawVF_eq m P gn rr tl pu D call ops rest _ _ _
    unfold drawV drawVF
    simp only [ih, liveF_eq, wantedF_eq, stepXF_eq, stepF_eq, drawCallF_eq, pureCallF_eq, evF_eq, List.map_cons, stF]
    rfl

def pairPF (m : Nat) (P : Program) (ops : Array Oper) (tr : List Sf) (vs : List Value) (p : Nat × Nat) : Prop :=
  match ops[p.1]?, tr[p.1]?, tr[p.2]?, tr[p.2 + 1]?, vs[p.1]? with
  | some o, some si, some sj, some sk, some v =>
    if wantedF m ops o si.t then stepR P (evF m si.t) o sj.h = some v ∧ stepR P (evF m si.t) o sk.h = some v else True
  | _, _, _, _, _ => False
def pairBF (m : Nat) (P : Program) (ops : Array Oper) (tr : List Sf) (vs : List Value) (p : Nat × Nat) : Bool :=
  match ops[p.1]?, tr[p.1]?, tr[p.2]?, tr[p.2 + 1]?, vs[p.1]? with
  | some o, some si, some sj, some sk, some v =>
    !wantedF m ops o si.t || ((match stepR P (evF m si.t) o sj.h with | some u => vbeq u v | none => false) && (match stepR P (evF m si.t) o sk.h with | some u => vbeq u v | none => false))
  | _, _, _, _, _ => false
def quietAtF (m : Nat) (P : Program) (pu : FuncId → Option LFun) (ops : Array Oper) (tr : List Sf) (k : Nat) : Bool :=
  match ops[k]?, tr[k]? with
  | some o, some s => !wantedF m ops o s.t || (match kindOf P o.op with | .T => true | .R => true | .C => (pureCallF m pu o s.t).isSome | _ => false)
  | _, _ => false
def quietBF (m : Nat) (P : Program) (pu : FuncId → Option LFun) (ops : Array Oper) (tr : List Sf) (p : Nat × Nat) : Bool :=
  if p.1 ≤ p.2 then spanB (quietAtF m P pu ops tr) p.1 (p.2 - p.1 + 1) else spanB (quietAtF m P pu ops tr) p.2 (p.1 - p.2)
theorem quietBF_eq (m : Nat) (P : Program) (pu : FuncId → Option LFun) (ops : Array Oper) (tr : List Sf) (p : Nat × Nat) : quietB P pu ops (tr.map (stF m)) p = quietBF m P pu ops tr p := by
  have h : quietAt P pu ops (tr.map (stF m)) = quietAtF m P pu ops tr := by
    funext k
    unfold quietAt quietAtF
    simp only [List.getElem?_map]
    cases ops[k]? <;> cases tr[k]? <;> first | rfl | (simp only [Option.map_some, stF, wantedF_eq, pureCallF_eq]; rfl)
  unfold quietB quietBF
  rw [h]
def pairsPF (m : Nat) (P : Program) (pu : FuncId → Option LFun) (ops : Array Oper) (tr : List Sf) (vs : List Value) : List (Nat × Nat) → Prop → Prop
  | [], X => X
  | p :: r, X => if pairBF m P ops tr vs p then pairsPF m P pu ops tr vs r X else if quietBF m P pu ops tr p then pairsPF m P pu ops tr vs r X else pairPF m P ops tr vs p ∧ pairsPF m P pu ops tr vs r X
theorem pairPF_eq (m : Nat) (P : Program) (ops : Array Oper) (tr : List Sf) (vs : List Value) (p : Nat × Nat) : pairP P ops (tr.map (stF m)) vs p = pairPF m P ops tr vs p := by
  unfold pairP pairPF
  simp only [List.getElem?_map]
  cases ops[p.1]? <;> cases tr[p.1]? <;> cases tr[p.2]? <;> cases tr[p.2 + 1]? <;> cases vs[p.1]? <;> first | rfl | (simp only [Option.map_some, stF, wantedF_eq, evF_eq])
theorem pairBF_eq (m : Nat) (P : Program) (ops : Array Oper) (tr : List Sf) (vs : List Value) (p : Nat × Nat) : pairB P ops (tr.map (stF m)) vs p = pairBF m P ops tr vs p := by
  unfold pairB pairBF
  simp only [List.getElem?_map]
  cases ops[p.1]? <;> cases tr[p.1]? <;> cases tr[p.2]? <;> cases tr[p.2 + 1]? <;> cases vs[p.1]? <;> first | rfl | (simp only [Option.map_some, stF, wantedF_eq, evF_eq]; rfl)
theorem pairsPF_eq (m : Nat) (P : Program) (pu : FuncId → Option LFun) (ops : Array Oper) (tr : List Sf) (vs : List Value) : ∀ (l : List (Nat × Nat)) (X : Prop), pairsP P pu ops (tr.map (stF m)) vs l X = pairsPF m P pu ops tr vs l X
  | [], X => rfl
  | p :: r, X => by
    unfold pairsP pairsPF
    rw [pairBF_eq, pairPF_eq, quietBF_eq, pairsPF_eq m P pu ops tr vs r X]

def resKF (P : Program) (fn : Func) (K : Value → Hp → Prop) (ex : Ex) (m : Nat) (s : Sf) : Prop :=
  match ex with
  | .normal | .ret => match resultsF m P fn s with
    | some v => K v s.h
    | none => False
  | _ => False
theorem resKF_eq (P : Program) (fn : Func) (K : Value → Hp → Prop) : (fun ex m f => resK P fn K ex (stF m f)) = resKF P fn K := by
  funext ex m f
  unfold resK resKF
  cases ex <;> first | rfl | (simp only [resultsF_eq]; rfl)

def callWithVF (P : Program) (C : Con) (rc : Nat → Nat → Code → Sf → (Ex → Nat → Sf → Prop) → Prop) : CallV := fun f args h K =>
  match C f with
  | some g => g args h K
  | none => match P.funcs[f]? with
    | none => False
    | some fn => match fn.body with
      | none => match externA fn.name fn.origin args h with
        | some (v, h') => K v h'
        | none => False
      | some c => forceN (args.length + (fn.ntmps - args.length)) fun m => rc h.next m c (startF m args h) (resKF P fn K)

def runVF (P : Program) (C : Con) (call : Caller) : Nat → Loops → Nat → Nat → Code → Sf → (Ex → Nat → Sf → Prop) → Prop
  | 0, _, _, _, _, _, _ => False
  | n + 1, LS, k, m, c, s, K =>
    match c with
    | .skip => K .normal m s
    | .label _ => K .normal m s
    | .ret => K .ret m s
    | .exit id => K (.exit id) m s
    | .goto l => K (.goto l) m s
    | .region _ ops draw =>
      if draw then
        if staticOk P ops then drawVF S m P C.gen C.rows C.told C.pures C.draws call ops ops.toList s.t s.h fun tr vs => pairsPF m P C.pures ops tr vs (drawPairs P ops) (match tr[ops.size]? with | some s' => K .normal m s' | none => False)
        else False
      else opsVF S m P C.gen C.rows C.told (callWithVF P C (runVF P C call n noLoops)) ops ops.toList s.t s.h fun t h => K .normal m ⟨t, h⟩
    | .seq a b => runVF P C call n LS k m a s fun ex m s1 => match ex with
      | .normal => runVF P C call n LS k m b s1 K
      | .exit id => K (.exit id) m s1
      | .goto l => K (.goto l) m s1
      | .ret => K .ret m s1
    | .cond c a b => if okOperand c then match condA (evF m s.t c) with
        | some t => runVF P C call n LS k m (if t then a else b) s K
        | none => False
      else False
    | .block id b => match LS id, b with
      | some Ls, .loop b => enters k (stF m s) (fun L d => L.I d ∧ eachL (fun L => ∀ d, L.I d → match L.sh.fill (L.fills d) with
          | some s0 => forceN (s0.tmps.length) fun m => runVF P C call n LS k m b (startF m s0.tmps s0.h) fun ex m s1 => match ex with
            | .normal => enters k (stF m s1) (fun L' d' => L'.m d' < L.m d ∧ L'.I d') Ls
            | .exit id' => if id' = id then K .normal m s1 else K (.exit id') m s1
            | .goto l => K (.goto l) m s1
            | .ret => K .ret m s1
          | none => False) Ls) Ls
      | _, b => runVF P C call n LS k m b s fun ex m s1 => match ex with
        | .exit id' => if id' = id then K .normal m s1 else K (.exit id') m s1
        | .normal => K .normal m s1
        | .goto l => K (.goto l) m s1
        | .ret => K .ret m s1
    | .loop b => runVF P C call n LS k m b s fun ex m s1 => match ex with
      | .normal => runVF P C call n LS k m (.loop b) s1 K
      | .exit id => K (.exit id) m s1
      | .goto l => K (.goto l) m s1
      | .ret => K .ret m s1
    | .scope b => runVF P C call n LS k m b s fun ex m s1 => match ex with
      | .goto l => match findLabel b l with
        | some rest => runVF P C call n LS k m rest s1 fun ex m s2 => match ex with
          | .goto _ => False
          | ex => K ex m s2
        | none => False
      | ex => K ex m s1
    | _ => False

theorem st_startF (s : St) : s = stF s.tmps.length (startF s.tmps.length s.tmps s.h) := by
  have := startF_eq s.tmps s.tmps.length s.h
  rw [Nat.sub_self, List.replicate_zero, List.append_nil] at this
  exact this

theorem callWithVF_eq (P : Program) (C : Con) {rc : Nat → Code → St → (Ex → St → Prop) → Prop} {rcF : Nat → Nat → Code → Sf → (Ex → Nat → Sf → Prop) → Prop} (h : ∀ k m c f K, rc k c (stF m f) K = rcF k m c f fun ex m f => K ex (stF m f)) : callWithV P C rc = callWithVF P C rcF := by
  funext f args hp K
  unfold callWithV callWithVF
  cases C f with
  | some g => rfl
  | none =>
    simp only
    cases P.funcs[f]? with
    | none => rfl
    | some fn =>
      simp only
      cases fn.body with
      | none => rfl
      | some c =>
        simp only
        rw [startF_eq, h, forceN_eq, resKF_eq]

theorem runVF_eq (P : Program) (C : Con) (call : Caller) : ∀ (n : Nat) (LS : Loops) (k m : Nat) (c : Code) (f : Sf) (K : Ex → St → Prop), runV S P C call n LS k c (stF m f) K = runVF S P C call n LS k m c f fun ex m f => K ex (stF m f)
  | 0, LS, k, m, c, f, K => rfl
  | n + 1, LS, k, m, c, f, K => by
    have ih := runVF_eq P C call n
    have hc : callWithV P C (runV S P C call n noLoops) = callWithVF P C (runVF S P C call n noLoops) := callWithVF_eq P C (ih noLoops)
    unfold runV runVF
    cases c with
    | skip => rfl
    | label _ => rfl
    | ret => rfl
    | exit _ => rfl
    | goto _ => rfl
    | rangeFunc _ _ _ _ => rfl
    | refuse _ => rfl
    | scope b =>
      simp only
      rw [ih LS k m b f]
      congr 1
      funext ex m f
      cases ex with
      | goto l =>
        simp only
        cases findLabel b l with
        | none => rfl
        | some rest =>
          simp only
          rw [ih LS k m rest f]
          refine congrArg _ ?_
          funext ex m f
          cases ex <;> rfl
      | _ => rfl
    | region _ ops draw =>
      simp only
      rw [hc, show stF m f = ⟨listF m f.t, f.h⟩ from rfl, drawVF_eq, opsVF_eq]
      split
      · split
        · congr 1
          funext tr vs
          rw [pairsPF_eq, List.getElem?_map]
          congr 1
          cases tr[ops.size]? <;> rfl
        · rfl
      · rfl
    | seq a b =>
      simp only
      rw [ih LS k m a f]
      congr 1
      funext ex m f
      cases ex with
      | normal => exact ih LS k m b f K
      | _ => rfl
    | cond c a b =>
      simp only
      rw [show evA (stF m f).tmps = evF m f.t from evF_eq m f.t]
      split
      · cases condA (evF m f.t c) with
        | none => rfl
        | some t => exact ih LS k m _ f K
      · rfl
    | block id b =>
      have plain : (runV S P C call n LS k b (stF m f) fun ex s1 => match ex with
          | .exit id' => if id' = id then K .normal s1 else K (.exit id') s1
          | .normal => K .normal s1
          | .goto l => K (.goto l) s1
          | .ret => K .ret s1) = (runVF S P C call n LS k m b f fun ex m s1 => match ex with
          | .exit id' => if id' = id then K .normal (stF m s1) else K (.exit id') (stF m s1)
          | .normal => K .normal (stF m s1)
          | .goto l => K (.goto l) (stF m s1)
          | .ret => K .ret (stF m s1)) := by
        rw [ih LS k m b f]
      simp only
      cases hL : LS id with
      | none => exact plain
      | some Ls =>
        cases b with
        | loop b =>
          simp only
          congr 1
          funext L d
          congr 1
          congr 1
          funext L
          apply propext
          refine forall_congr' fun d => ?_
          refine forall_congr' fun hd => ?_
          cases L.sh.fill (L.fills d) with
          | none => exact Iff.rfl
          | some s0 =>
            simp only
            rw [forceN_eq]
            conv => lhs; rw [st_startF s0]
            rw [ih LS k]
            refine iff_of_eq ?_
            congr 1
        | _ => exact plain
    | loop b =>
      simp only
      rw [ih LS k m b f]
      congr 1
      funext ex m f
      cases ex with
      | normal => exact ih LS k m _ f K
      | _ => rfl

/-- A function's text. -/
def lawV (P : Program) (C : Con) (call : Caller) (n : Nat) (LS : Loops) (fn : Func) (c : Code) (args : List Value) (h : Hp) (K : Value → Hp → Prop) : Prop :=
  forceN (args.length + (fn.ntmps - args.length)) fun m => runVF S P C call n LS h.next m c (startF m args h) (resKF P fn K)
theorem lawV_eq (P : Program) (C : Con) (call : Caller) (n : Nat) (LS : Loops) (fn : Func) (c : Code) (args : List Value) (h : Hp) (K : Value → Hp → Prop) :
    runV S P C call n LS h.next c ⟨args ++ List.replicate (fn.ntmps - args.length) undef, h⟩ (resK P fn K) = lawV S P C call n LS fn c args h K := by
  unfold lawV
  rw [forceN_eq, startF_eq, runVF_eq, resKF_eq]
end

theorem law_callsF {P : Program} (hP : ProgOk P) {C : Con} (hC : ConOk P C) {call : Caller} (hcall : CallOk P call) {f : FuncId} {fn : Func} {c : Code} (hf : P.funcs[f]? = some fn) (hb : fn.body = some c) {n : Nat} {LS : Loops} {args : List Value} {h0 : Hp}
    (hro : ∀ b x, h0.get b = some x → ownB x = false) (e : lawV std P C call n LS fn c args h0 fun v _ => v = .bool true)
    {W : World} {args' : Array Value} {μ : Mu} (hl : All2 (VR μ) args args'.toList) (hrel : Rel μ W.heap.size h0.get W) (hfree : ∀ b, h0.next ≤ b → μ b = none) :
    Calls P f args' W fun en W' => RowKit.Below W.heap.size W W' ∧ en = .returned (.bool true) :=
  law_calls hP hC hcall hf hb hro (by rw [lawV_eq]; exact e) hl hrel hfree
end Go.Abs
namespace Go.Proofs.Ytolkoacllaaceaa
open Go.RowKit Go.Abs
/-- Calls in regions whose order is open: by the text. -/
noncomputable def inCallF (n : Nat) : Caller := callF vbeq Try.prog X0 n
theorem inCallF_ok (n : Nat) : CallOk Try.prog (inCallF n) := by unfold inCallF; rw [← callF_eq]; exact inCall_ok n
end Go.Proofs.Ytolkoacllaaceaa
