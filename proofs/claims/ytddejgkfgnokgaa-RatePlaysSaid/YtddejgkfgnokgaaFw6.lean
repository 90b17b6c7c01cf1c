/-
  THE FAST TWIN of the evaluator that asks: slots in a tree; it asks what the evaluator asks.
-/
import Derived.Test.YtddejgkfgnokgaaFw5
import Derived.ChangeSlices
import Derived.ChangeBears
import Derived.OpenShut
import Derived.Test.YtddejgkfgnokgaaFw2
import Derived.Lib.SlKeysI
import Derived.Maps.Own
import Derived.Sort.KeysCollected
section
namespace Go.Abs
open Go

noncomputable section
variable (S : Sy)

def stepXF (m : Nat) (P : Program) (o : Oper) (t : Vt) (h : Hp) : Option XR :=
  if o.op.operands.toList.all okOperand then
    match kindOf P o.op with
    | .T => match stepT P (evF m t) o with
      | some v => some (.val v h)
      | none => match symTV S P (evF m t) o h with
        | some l => some (.alts l)
        | none => (symDT S P (evF m t) o h).map .alts
    | .R => match stepR P (evF m t) o h with
      | some v => some (.val v h)
      | none => match symR S P (evF m t) o h with
        | some l => some (.alts l)
        | none => match symDR S P (evF m t) o h with
          | some l => some (.alts l)
          | none => (symMV S P (evF m t) o h).map .alts
    | .N => match symDN P (evF m t) o with
      | some (b, f) => some (.val (f h.next) (h.push b))
      | none => match stepN P (evF m t) o with
      | some (b, f) => some (.val (f h.next) (h.push b))
      | none => match symN S P (evF m t) o with
        | some (b, f) => some (.val (f h.next) (h.push b))
        | none => (symM S P (evF m t) o h).map .alts
    | .E => match stepE P (evF m t) o h with
      | some (v, h) => some (.val v h)
      | none => match symE S P (evF m t) o h with
        | some l => some (.alts l)
        | none => (symEV S P (evF m t) o h).map .alts
    | _ => none
  else none
theorem stepXF_eq (m : Nat) (P : Program) (o : Oper) (t : Vt) (h : Hp) : stepX S P o ⟨listF m t, h⟩ = stepXF S m P o t h := by
  unfold stepX stepXF
  rw [show evA (⟨listF m t, h⟩ : St).tmps = evF m t from evF_eq m t]
  rfl

def opsVF (m : Nat) (P : Program) (gn rr : Oper → Bool) (tl : Oper → (Operand → Value) → Option Bool) (call : CallV) (ops : Array Oper) : List Oper → Vt → Hp → (Vt → Hp → Prop) → Prop
  | [], t, h, K => K t h
  | o :: rest, t, h, K =>
    if liveF m ops o t then
      if wantedF m ops o t then
        match kindOf P o.op with
        | .C => if o.op.operands.toList.all okOperand then match o.op with
            | .call c => match callee (evF m t) c with
              | some (f, args) => call f args h fun v h => splitK v fun v => opsVF m P gn rr tl call ops rest (putF m t o.dst v) h K
              | none => S.no o (o.op.operands.toList.map (evF m t))
            | _ => False
          else False
        | _ => match (if rr o then none else stepG S P (evF m t) o h) with
          | some l => altsK l fun v h => opsVF m P gn rr tl call ops rest (putF m t o.dst v) h K
          | none => match stepXF S m P o t h with
            | some r => r.K (tl o (evF m t)) fun v h => genK S (gn o) v fun v => splitK v fun v => opsVF m P gn rr tl call ops rest (putF m t o.dst v) h K
            | none => S.no o (o.op.operands.toList.map (evF m t))
      else opsVF m P gn rr tl call ops rest (putF m t o.dst undef) h K
    else False
theorem opsVF_eq (m : Nat) (P : Program) (gn rr : Oper → Bool) (tl : Oper → (Operand → Value) → Option Bool) (call : CallV) (ops : Array Oper) : ∀ (l : List Oper) (t : Vt) (h : Hp) (K : St → Prop), opsV S P gn rr tl call ops l ⟨listF m t, h⟩ K = opsVF S m P gn rr tl call ops l t h fun t h => K (stF m ⟨t, h⟩)
  | [], t, h, K => rfl
  | o :: rest, t, h, K => by
    have ih : ∀ v h', opsV S P gn rr tl call ops rest ⟨St.put ⟨listF m t, h⟩ o.dst v, h'⟩ K = opsVF S m P gn rr tl call ops rest (putF m t o.dst v) h' fun t h => K (stF m ⟨t, h⟩) := by
      intro v h'
      rw [putF_eq]
      exact opsVF_eq m P gn rr tl call ops rest _ _ K
    unfold opsV opsVF
    simp only [ih, liveF_eq, wantedF_eq, stepXF_eq, evF_eq]
    rfl

def drawCallF (m : Nat) (D : FuncId → Option (List Value → Hp → (Value → Hp → Prop) → Prop)) (o : Oper) (t : Vt) (h : Hp) : Option ((Value → Hp → Prop) → Prop) :=
  if o.op.operands.toList.all okOperand then match o.op with
    | .call c => match callee (evF m t) c with
      | some (f, args) => (D f).map fun g => g args h
      | none => none
    | _ => none
  else none
theorem drawCallF_eq (m : Nat) (D : FuncId → Option (List Value → Hp → (Value → Hp → Prop) → Prop)) (o : Oper) (t : Vt) (h : Hp) : drawCall D o ⟨listF m t, h⟩ = drawCallF m D o t h := by
  unfold drawCall drawCallF
  rw [show evA (⟨listF m t, h⟩ : St).tmps = evF m t from evF_eq m t]
  rfl
def pureCallF (m : Nat) (D : FuncId → Option LFun) (o : Oper) (t : Vt) : Option Value :=
  if o.op.operands.toList.all okOperand then match o.op with
    | .call c => match callee (evF m t) c with
      | some (f, args) => match D f with
        | some g => g args
        | none => none
      | none => none
    | _ => none
  else none
theorem pureCallF_eq (m : Nat) (D : FuncId → Option LFun) (o : Oper) (t : Vt) (h : Hp) : pureCall D o ⟨listF m t, h⟩ = pureCallF m D o t := by
  unfold pureCall pureCallF
  rw [show evA (⟨listF m t, h⟩ : St).tmps = evF m t from evF_eq m t]
  rfl
def drawVF (m : Nat) (P : Program) (gn rr : Oper → Bool) (tl : Oper → (Operand → Value) → Option Bool) (pu : FuncId → Option LFun) (D : FuncId → Option (List Value → Hp → (Value → Hp → Prop) → Prop)) (call : Caller) (ops : Array Oper) : List Oper → Vt → Hp → (List Sf → List Value → Prop) → Prop
  | [], t, h, K => K [⟨t, h⟩] []
  | o :: rest, t, h, K =>
    if liveF m ops o t then
      if wantedF m ops o t then
        match kindOf P o.op with
        | .C => match pureCallF m pu o t with
          | some v => splitK v fun v => drawVF m P gn rr tl pu D call ops rest (putF m t o.dst v) h fun tr vs => K (⟨t, h⟩ :: tr) (v :: vs)
          | none => match drawCallF m D o t h with
            | some g => g fun v h' => splitK v fun v => drawVF m P gn rr tl pu D call ops rest (putF m t o.dst v) h' fun tr vs => K (⟨t, h⟩ :: tr) (v :: vs)
            | none => match stepF m P call o t h with
              | some (v, h') => drawVF m P gn rr tl pu D call ops rest (putF m t o.dst v) h' fun tr vs => K (⟨t, h⟩ :: tr) (v :: vs)
              | none => False
        | _ => match (if rr o || !isEff P o then none else stepG S P (evF m t) o h) with
          | some l => altsK l fun v h' => drawVF m P gn rr tl pu D call ops rest (putF m t o.dst v) h' fun tr vs => K (⟨t, h⟩ :: tr) (v :: vs)
          | none => match stepXF S m P o t h with
          | some r => r.K (tl o (evF m t)) fun v h' => genK S (gn o) v fun v => splitK v fun v => drawVF m P gn rr tl pu D call ops rest (putF m t o.dst v) h' fun tr vs => K (⟨t, h⟩ :: tr) (v :: vs)
          | none => S.no o (o.op.operands.toList.map (evF m t))
      else drawVF m P gn rr tl pu D call ops rest (putF m t o.dst undef) h fun tr vs => K (⟨t, h⟩ :: tr) (undef :: vs)
    else False
theorem drawVF_eq (m : Nat) (P : Program) (gn rr : Oper → Bool) (tl : Oper → (Operand → Value) → Option Bool) (pu : FuncId → Option LFun) (D : FuncId → Option (List Value → Hp → (Value → Hp → Prop) → Prop)) (call : Caller) (ops : Array Oper) : ∀ (l : List Oper) (t : Vt) (h : Hp) (K : List St → List Value → Prop), drawV S P gn rr tl pu D call ops l ⟨listF m t, h⟩ K = drawVF S m P gn rr tl pu D call ops l t h fun tr vs => K (tr.map (stF m)) vs
  | [], t, h, K => rfl
  | o :: rest, t, h, K => by
    have ih : ∀ v h', drawV S P gn rr tl pu D call ops rest ⟨St.put ⟨listF m t, h⟩ o.dst v, h'⟩ (fun tr vs => K (⟨listF m t, h⟩ :: tr) (v :: vs)) = drawVF S m P gn rr tl pu D call ops rest (putF m t o.dst v) h' fun tr vs => K (⟨listF m t, h⟩ :: tr.map (stF m)) (v :: vs) := by
      intro v h'
      rw [putF_eq]
      exact drawVF_eq m P gn rr tl pu D call ops rest _ _ _
    unfold drawV drawVF
    simp only [ih, liveF_eq, wantedF_eq, stepXF_eq, stepF_eq, drawCallF_eq, pureCallF_eq, evF_eq, List.map_cons, stF]
    rfl

def pairPF (m : Nat) (P : Program) (ops : Array Oper) (tr : List Sf) (vs : List Value) (p : Nat × Nat) : Prop :=
  match ops[p.1]?, tr[p.1]?, tr[p.2]?, tr[p.2 + 1]?, vs[p.1]? with
  | some o, some si, some sj, some sk, some v =>
    if wantedF m ops o si.t then sameM (readM S P (evF m si.t) o sj.h) v ∧ sameM (readM S P (evF m si.t) o sk.h) v else True
  | _, _, _, _, _ => False
def pairBF (m : Nat) (P : Program) (ops : Array Oper) (tr : List Sf) (vs : List Value) (p : Nat × Nat) : Bool :=
  match ops[p.1]?, tr[p.1]?, tr[p.2]?, tr[p.2 + 1]?, vs[p.1]? with
  | some o, some si, some sj, some sk, some v =>
    !wantedF m ops o si.t || ((match readM S P (evF m si.t) o sj.h with | some u => vbeq u v | none => false) && (match readM S P (evF m si.t) o sk.h with | some u => vbeq u v | none => false))
  | _, _, _, _, _ => false
def quietAtF (m : Nat) (P : Program) (pu : FuncId → Option LFun) (ops : Array Oper) (tr : List Sf) (k : Nat) : Bool :=
  match ops[k]?, tr[k]? with
  | some o, some s => !wantedF m ops o s.t || (match kindOf P o.op with | .T => true | .R => true | .C => (pureCallF m pu o s.t).isSome | _ => false)
  | _, _ => false
def quietBF (m : Nat) (P : Program) (pu : FuncId → Option LFun) (ops : Array Oper) (tr : List Sf) (p : Nat × Nat) : Bool :=
  if p.1 ≤ p.2 then spanB (quietAtF m P pu ops tr) p.1 (p.2 - p.1 + 1) else spanB (quietAtF m P pu ops tr) p.2 (p.1 - p.2)
theorem quietBF_eq (m : Nat) (P : Program) (pu : FuncId → Option LFun) (ops : Array Oper) (tr : List Sf) (p : Nat × Nat) : quietB P pu ops (tr.map (stF m)) p = quietBF m P pu ops tr p := by
  have h : quietAt P pu ops (tr.map (stF m)) = quietAtF m P pu ops tr := by
    funext k
    unfold quietAt quietAtF
    simp only [List.getElem?_map]
    cases ops[k]? <;> cases tr[k]? <;> first | rfl | (simp only [Option.map_some, stF, wantedF_eq, pureCallF_eq]; rfl)
  unfold quietB quietBF
  rw [h]
def deepRF (m : Nat) (P : Program) (o : Oper) (t : Vt) (h : Hp) : Bool :=
  match kindOf P o.op with
  | .R => match stepR P (evF m t) o h, symR std P (evF m t) o h with
    | none, none => (symDR std P (evF m t) o h).isSome
    | _, _ => false
  | _ => false
def deepAtF (m : Nat) (P : Program) (ops : Array Oper) (tr : List Sf) (k : Nat) : Bool :=
  match ops[k]?, tr[k]? with
  | some o, some s => deepRF m P o s.t s.h
  | _, _ => false
theorem deepAtF_eq (m : Nat) (P : Program) (ops : Array Oper) (tr : List Sf) (k : Nat) : deepAt P ops (tr.map (stF m)) k = deepAtF m P ops tr k := by
  unfold deepAt deepAtF
  simp only [List.getElem?_map]
  cases ops[k]? <;> cases tr[k]? <;> first | rfl | (simp only [Option.map_some, stF, deepR, deepRF, evF_eq]; rfl)
def pairsPF (m : Nat) (P : Program) (pu : FuncId → Option LFun) (ops : Array Oper) (tr : List Sf) (vs : List Value) : List (Nat × Nat) → Prop → Prop
  | [], X => X
  | p :: r, X => if pairBF S m P ops tr vs p then pairsPF m P pu ops tr vs r X else if quietBF m P pu ops tr p || deepAtF m P ops tr p.1 then pairsPF m P pu ops tr vs r X else pairPF S m P ops tr vs p ∧ pairsPF m P pu ops tr vs r X
theorem pairPF_eq (m : Nat) (P : Program) (ops : Array Oper) (tr : List Sf) (vs : List Value) (p : Nat × Nat) : pairP S P ops (tr.map (stF m)) vs p = pairPF S m P ops tr vs p := by
  unfold pairP pairPF
  simp only [List.getElem?_map]
  cases ops[p.1]? <;> cases tr[p.1]? <;> cases tr[p.2]? <;> cases tr[p.2 + 1]? <;> cases vs[p.1]? <;> first | rfl | (simp only [Option.map_some, stF, wantedF_eq, evF_eq])
theorem pairBF_eq (m : Nat) (P : Program) (ops : Array Oper) (tr : List Sf) (vs : List Value) (p : Nat × Nat) : pairB S P ops (tr.map (stF m)) vs p = pairBF S m P ops tr vs p := by
  unfold pairB pairBF
  simp only [List.getElem?_map]
  cases ops[p.1]? <;> cases tr[p.1]? <;> cases tr[p.2]? <;> cases tr[p.2 + 1]? <;> cases vs[p.1]? <;> first | rfl | (simp only [Option.map_some, stF, wantedF_eq, evF_eq]; rfl)
theorem pairsPF_eq (m : Nat) (P : Program) (pu : FuncId → Option LFun) (ops : Array Oper) (tr : List Sf) (vs : List Value) : ∀ (l : List (Nat × Nat)) (X : Prop), pairsP S P pu ops (tr.map (stF m)) vs l X = pairsPF S m P pu ops tr vs l X
  | [], X => rfl
  | p :: r, X => by
    unfold pairsP pairsPF
    rw [pairBF_eq, pairPF_eq, quietBF_eq, deepAtF_eq, pairsPF_eq m P pu ops tr vs r X]

def resKF (P : Program) (fn : Func) (K : Value → Hp → Prop) (ex : Ex) (m : Nat) (s : Sf) : Prop :=
  match ex with
  | .normal | .ret => match resultsF m P fn s with
    | some v => K v s.h
    | none => False
  | _ => False
theorem resKF_eq (P : Program) (fn : Func) (K : Value → Hp → Prop) : (fun ex m f => resK P fn K ex (stF m f)) = resKF P fn K := by
  funext ex m f
  unfold resK resKF
  cases ex <;> first | rfl | (simp only [resultsF_eq]; rfl)

def callWithVF (P : Program) (C : Con) (rc : Nat → Nat → Code → Sf → (Ex → Nat → Sf → Prop) → Prop) : CallV := fun f args h K =>
  match C f with
  | some g => g args h K
  | none => match P.funcs[f]? with
    | none => False
    | some fn => match fn.body with
      | none => match externA fn.name fn.origin args h with
        | some (v, h') => K v h'
        | none => False
      | some c => forceN (args.length + (fn.ntmps - args.length)) fun m => rc h.next m c (startF m args h) (resKF P fn K)

def runVF (P : Program) (C : Con) (call : Caller) : Nat → Loops → Nat → Nat → Code → Sf → (Ex → Nat → Sf → Prop) → Prop
  | 0, _, _, _, _, _, _ => False
  | n + 1, LS, k, m, c, s, K =>
    match c with
    | .skip => K .normal m s
    | .label _ => K .normal m s
    | .ret => K .ret m s
    | .exit id => K (.exit id) m s
    | .goto l => K (.goto l) m s
    | .region _ ops draw =>
      if draw then
        if staticOk P ops then drawVF S m P C.gen C.rows C.told C.pures C.draws call ops ops.toList s.t s.h fun tr vs => pairsPF S m P C.pures ops tr vs (drawPairs P ops) (match tr[ops.size]? with | some s' => K .normal m s' | none => False)
        else False
      else opsVF S m P C.gen C.rows C.told (callWithVF P C (runVF P C call n noLoops)) ops ops.toList s.t s.h fun t h => K .normal m ⟨t, h⟩
    | .seq a b => runVF P C call n LS k m a s fun ex m s1 => match ex with
      | .normal => runVF P C call n LS k m b s1 K
      | .exit id => K (.exit id) m s1
      | .goto l => K (.goto l) m s1
      | .ret => K .ret m s1
    | .cond c a b => if okOperand c then match condA (evF m s.t c) with
        | some t => runVF P C call n LS k m (if t then a else b) s K
        | none => False
      else False
    | .block id b => match LS id, b with
      | some Ls, .loop b => enters k (stF m s) (fun L0 d0 => L0.I d0 ∧ eachL (fun L => ∀ d, L.I d → ghP L0 d0 L d (match L.sh.fill (L.fills d) with
          | some s0 => forceN (s0.tmps.length) fun m => runVF P C call n LS k m b (startF m s0.tmps s0.h) fun ex m s1 => match ex with
            | .normal => enters k (stF m s1) (fun L' d' => L'.m d' < L.m d ∧ ghC L0 d0 L' d' (L'.I d')) Ls
            | .exit id' => if id' = id then K .normal m s1 else K (.exit id') m s1
            | .goto l => K (.goto l) m s1
            | .ret => K .ret m s1
          | none => False)) Ls) Ls
      | _, b => runVF P C call n LS k m b s fun ex m s1 => match ex with
        | .exit id' => if id' = id then K .normal m s1 else K (.exit id') m s1
        | .normal => K .normal m s1
        | .goto l => K (.goto l) m s1
        | .ret => K .ret m s1
    | .loop b => runVF P C call n LS k m b s fun ex m s1 => match ex with
      | .normal => runVF P C call n LS k m (.loop b) s1 K
      | .exit id => K (.exit id) m s1
      | .goto l => K (.goto l) m s1
      | .ret => K .ret m s1
    | .scope b => runVF P C call n LS k m b s fun ex m s1 => match ex with
      | .goto l => match findLabel b l with
        | some rest => runVF P C call n LS k m rest s1 fun ex m s2 => match ex with
          | .goto _ => False
          | ex => K ex m s2
        | none => False
      | ex => K ex m s1
    | _ => False

theorem st_startF (s : St) : s = stF s.tmps.length (startF s.tmps.length s.tmps s.h) := by
  have := startF_eq s.tmps s.tmps.length s.h
  rw [Nat.sub_self, List.replicate_zero, List.append_nil] at this
  exact this

theorem callWithVF_eq (P : Program) (C : Con) {rc : Nat → Code → St → (Ex → St → Prop) → Prop} {rcF : Nat → Nat → Code → Sf → (Ex → Nat → Sf → Prop) → Prop} (h : ∀ k m c f K, rc k c (stF m f) K = rcF k m c f fun ex m f => K ex (stF m f)) : callWithV P C rc = callWithVF P C rcF := by
  funext f args hp K
  unfold callWithV callWithVF
  cases C f with
  | some g => rfl
  | none =>
    simp only
    cases P.funcs[f]? with
    | none => rfl
    | some fn =>
      simp only
      cases fn.body with
      | none => rfl
      | some c =>
        simp only
        rw [startF_eq, h, forceN_eq, resKF_eq]

theorem runVF_eq (P : Program) (C : Con) (call : Caller) : ∀ (n : Nat) (LS : Loops) (k m : Nat) (c : Code) (f : Sf) (K : Ex → St → Prop), runV S P C call n LS k c (stF m f) K = runVF S P C call n LS k m c f fun ex m f => K ex (stF m f)
  | 0, LS, k, m, c, f, K => rfl
  | n + 1, LS, k, m, c, f, K => by
    have ih := runVF_eq P C call n
    have hc : callWithV P C (runV S P C call n noLoops) = callWithVF P C (runVF S P C call n noLoops) := callWithVF_eq P C (ih noLoops)
    unfold runV runVF
    cases c with
    | skip => rfl
    | label _ => rfl
    | ret => rfl
    | exit _ => rfl
    | goto _ => rfl
    | rangeFunc _ _ _ _ => rfl
    | refuse _ => rfl
    | scope b =>
      simp only
      rw [ih LS k m b f]
      congr 1
      funext ex m f
      cases ex with
      | goto l =>
        simp only
        cases findLabel b l with
        | none => rfl
        | some rest =>
          simp only
          rw [ih LS k m rest f]
          refine congrArg _ ?_
          funext ex m f
          cases ex <;> rfl
      | _ => rfl
    | region _ ops draw =>
      simp only
      rw [hc, show stF m f = ⟨listF m f.t, f.h⟩ from rfl, drawVF_eq, opsVF_eq]
      split
      · split
        · congr 1
          funext tr vs
          rw [pairsPF_eq, List.getElem?_map]
          congr 1
          cases tr[ops.size]? <;> rfl
        · rfl
      · rfl
    | seq a b =>
      simp only
      rw [ih LS k m a f]
      congr 1
      funext ex m f
      cases ex with
      | normal => exact ih LS k m b f K
      | _ => rfl
    | cond c a b =>
      simp only
      rw [show evA (stF m f).tmps = evF m f.t from evF_eq m f.t]
      split
      · cases condA (evF m f.t c) with
        | none => rfl
        | some t => exact ih LS k m _ f K
      · rfl
    | block id b =>
      have plain : (runV S P C call n LS k b (stF m f) fun ex s1 => match ex with
          | .exit id' => if id' = id then K .normal s1 else K (.exit id') s1
          | .normal => K .normal s1
          | .goto l => K (.goto l) s1
          | .ret => K .ret s1) = (runVF S P C call n LS k m b f fun ex m s1 => match ex with
          | .exit id' => if id' = id then K .normal (stF m s1) else K (.exit id') (stF m s1)
          | .normal => K .normal (stF m s1)
          | .goto l => K (.goto l) (stF m s1)
          | .ret => K .ret (stF m s1)) := by
        rw [ih LS k m b f]
      simp only
      cases hL : LS id with
      | none => exact plain
      | some Ls =>
        cases b with
        | loop b =>
          simp only
          congr 1
          funext L d
          congr 1
          congr 1
          funext L
          apply propext
          refine forall_congr' fun d => ?_
          refine forall_congr' fun hd => ?_
          cases L.sh.fill (L.fills d) with
          | none => exact Iff.rfl
          | some s0 =>
            simp only
            rw [forceN_eq]
            conv => lhs; rw [st_startF s0]
            rw [ih LS k]
            refine iff_of_eq ?_
            congr 1
        | _ => exact plain
    | loop b =>
      simp only
      rw [ih LS k m b f]
      congr 1
      funext ex m f
      cases ex with
      | normal => exact ih LS k m _ f K
      | _ => rfl

/-- A function's text. -/
def lawV (P : Program) (C : Con) (call : Caller) (n : Nat) (LS : Loops) (fn : Func) (c : Code) (args : List Value) (h : Hp) (K : Value → Hp → Prop) : Prop :=
  forceN (args.length + (fn.ntmps - args.length)) fun m => runVF S P C call n LS h.next m c (startF m args h) (resKF P fn K)
theorem lawV_eq (P : Program) (C : Con) (call : Caller) (n : Nat) (LS : Loops) (fn : Func) (c : Code) (args : List Value) (h : Hp) (K : Value → Hp → Prop) :
    runV S P C call n LS h.next c ⟨args ++ List.replicate (fn.ntmps - args.length) undef, h⟩ (resK P fn K) = lawV S P C call n LS fn c args h K := by
  unfold lawV
  rw [forceN_eq, startF_eq, runVF_eq, resKF_eq]
end

theorem law_callsF {P : Program} (hP : ProgOk P) {C : Con} (hC : ConOk P C) {call : Caller} (hcall : CallOk P call) {f : FuncId} {fn : Func} {c : Code} (hf : P.funcs[f]? = some fn) (hb : fn.body = some c) {n : Nat} {LS : Loops} {args : List Value} {h0 : Hp}
    (hro : ∀ b x, h0.get b = some x → ownB x = false) (e : lawV std P C call n LS fn c args h0 fun v _ => v = .bool true)
    {W : World} {args' : Array Value} {μ : Mu} (hl : All2 (VR μ) args args'.toList) (hrel : Rel μ W.heap.size h0.get W) (hfree : ∀ b, h0.next ≤ b → μ b = none) :
    Calls P f args' W fun en W' => RowKit.Below W.heap.size W W' ∧ en = .returned (.bool true) :=
  law_calls hP hC hcall hf hb hro (by rw [lawV_eq]; exact e) hl hrel hfree
end Go.Abs
namespace Go.Proofs.Ytddejgkfgnokgaa
open Go.RowKit Go.Abs
/-- Calls in regions whose order is open: by the text. -/
noncomputable def inCallF (n : Nat) : Caller := callF vbeq Try.prog X0 n
theorem inCallF_ok (n : Nat) : CallOk Try.prog (inCallF n) := by unfold inCallF; rw [← callF_eq]; exact inCall_ok n
end Go.Proofs.Ytddejgkfgnokgaa
end
section
namespace Go.Abs
open Go

noncomputable section
/-- A function of immutable data: its arguments' zeroes, the arguments, what is asked of them, the results' zeroes, the results; is the one result a slice of its own? -/
structure PF where
  D : Type
  zs : List Value
  args : D → List Value
  dec : List Value → Option D
  ok : ∀ {deep : Value → Value → Option (List Value)} {vs xs : List Value} {d : D}, rawVs deep zs vs = some xs → dec xs = some d → rawVs deep0 zs (args d) = some xs
  pre : D → Prop
  zr : List Value
  res : D → List Value
  fresh : Bool := false

def freezeL (h : Hp) : List Nat → Hp
  | [] => h
  | b :: l => match h.get b with
    | some x => if isRowB x then freezeL (h.put b (some (roB x))) l else freezeL h l
    | none => freezeL h l
def bsOf (h : Hp) (args : List Value) : List Nat := args.flatMap fun v => v.cells.toList.flatMap (deepBs h 6)
/-- What is handed on of a fresh result: with the right to append. -/
def freshV (vs : List Value) (b : Nat) : Option Value :=
  match vs with
  | [v] => match asDeep v with
    | some (z, xs) => some (osl z xs b)
    | none => none
  | _ => none
def PF.leave (F : PF) (d : F.D) (h : Hp) (K : Value → Hp → Prop) : Prop :=
  if F.fresh then match freshV (F.res d) h.next with
    | some v => K v (h.push (.cells [] false))
    | none => False
  else K (resV (F.res d)) h
def pcon (F : PF) (args : List Value) (h : Hp) (K : Value → Hp → Prop) : Prop :=
  match rawVs (deepV h (fun b => (bsOf h args).contains b) 6) F.zs args with
  | some xs => match F.dec xs with
    | some d => F.pre d ∧ F.leave d (freezeL h (bsOf h args)) K
    | none => False
  | none => False
/-- The same where nothing is frozen. -/
def dcon (F : PF) (args : List Value) (h : Hp) (K : Value → Hp → Prop) : Prop :=
  match rawVs (deepV h (fun _ => false) 6) F.zs args with
  | some xs => match F.dec xs with
    | some d => F.pre d ∧ K (resV (F.res d)) h
    | none => False
  | none => False
def sameO (a b : Option (List Value)) : Prop := match a, b with
  | some x, some y => x = y
  | _, _ => False
/-- Numbers as values. -/
def valsOf (k : IntKind) (l : List Int) : List Value := l.map (.int k)
/-- A slice of a row of numbers that is a block of its own, as immutable data. -/
def rowV (h : Hp) (v : Value) : Option (Prop × Value) :=
  match den v with
  | .slice (some ⟨b, o, none⟩) m _ => match h.get b with
    | some (.row (.ints k xs) false) => some (std.nle (std.nadd o m) (std.len xs), dsl (.int k 0) (valsOf k (std.take m (std.drop o xs))))
    | _ => none
  | _ => none
/-- A slice that is all of a row of raw data: what it asks, the element's zero, the elements. -/
def rowF (h : Hp) (v : Value) : Option (Prop × Value × List Value) :=
  match den v with
  | .slice (some ⟨b, 0, none⟩) m k => match h.get b with
    | some (.row (.vals z xs) false) => if k = unk z.cells.size ∧ 0 < z.cells.size then some (std.neq m (std.len xs), z, xs) else none
    | _ => none
  | _ => none
/-- What is asked behind the function's text. -/
def PF.done (F : PF) (d : F.D) (v : Value) (h : Hp) : Prop :=
  match resL v with
  | some vs =>
    if F.fresh then match F.res d with
      | [r] => match asDeep r with
        | some (z, ys) => match rowF h v with
          | some (ob, z1, xs) => if zeq 5 z1 z then ob ∧ xs = ys else False
          | none => match vs with
          | [.slice none 0 0] => ([] : List Value) = ys
          | [.func (.yield 5) f xs] => match f.toList with
            | [z0, .slice none b 0] => if zeq 5 z0 z then match h.get b with
              | some (.cells [] false) => xs.toList = ys
              | _ => False
              else False
            | [z0, .slice none _ 1] => if zeq 5 z0 z then xs.toList = ys else False
            | _ => False
          | _ => False
        | none => False
      | _ => False
    else match rowV h v with
      | some (ob, u) => ob ∧ sameO (some [u]) (rawVs deep0 F.zr (F.res d))
      | none => sameO (rawVs (deepV h (fun _ => true) 6) F.zr vs) (rawVs deep0 F.zr (F.res d))
  | none => False
end

section
variable {μ : Mu} {base : Nat} {w : World}

theorem dr_plain {fz : Nat → Nat → Option Value} {u v' : Value} (hp : plain1 u = true) (hd : DR fz u v') : v' = u := by
  cases hd with
  | plain _ => rfl
  | nil => simp [not_plain_dsl] at hp
  | sl _ _ _ _ _ => simp [not_plain_dsl] at hp
/-- What raw data stands for, its like with marks stands for. -/
theorem unraw1 {z c x v' : Value} (h : rawCell deep0 z c = some x) (hd : DR μ.z x v') : VR1 μ c v' := by
  unfold rawCell at h
  split at h
  · split at h
    · rename_i k' n hn
      split at h
      · rename_i hk; subst hk
        simp only [Option.some.injEq] at h; subst h
        rw [dr_plain rfl hd]
        exact VR1.den_iff.1 (by rw [hn]; exact .refl_plain rfl)
      · cases h
    · cases h
  · split at h
    · rename_i s hs
      simp only [Option.some.injEq] at h; subst h
      rw [dr_plain rfl hd]
      exact VR1.den_iff.1 (by rw [hs]; exact .refl_plain rfl)
    · cases h
  · split at h
    · simp only [Option.some.injEq] at h; subst h
      rw [dr_plain rfl hd]; exact .refl_plain rfl
    · rename_i f y
      split at h
      · rename_i b hf hy
        simp only [Option.some.injEq] at h; subst h
        rw [dr_plain rfl hd]
        have e1 : f = #[.bool b] := by rw [← Array.toList_inj, hf]
        have e2 : y = #[] := by rw [← Array.toList_inj, hy]
        subst e1; subst e2
        exact .zero .mbool
      · cases h
    · cases h
  · split at h
    · rename_i z' hf
      cases e : deep0 z' c with
      | none => rw [e] at h; cases h
      | some ys =>
        rw [e] at h
        simp only [Option.map_some, Option.some.injEq] at h; subst h
        unfold deep0 at e
        split at e
        · rename_i f' xs
          split at e
          · rename_i z0 hf'
            split at e
            · rename_i hz
              simp only [Option.some.injEq] at e; subst e
              have := zeq_eq hz; subst this
              have : f' = #[z0] := by rw [← Array.toList_inj, hf']
              subst this
              have : Value.func (Fn.yield 1) #[z0] xs = dsl z0 xs.toList := by simp [dsl]
              rw [this]
              exact .zero (.deep hd)
            · cases e
          · cases e
        · cases e
    · cases h
  · split at h
    · rename_i hp
      simp only [Bool.and_eq_true] at hp
      simp only [Option.some.injEq] at h; subst h
      have := vbeq1_eq hp.2; subst this
      rw [dr_plain hp.1 hd]; exact .refl_plain hp.1
    · cases h

theorem rawCells0 : ∀ {zs cs xs : List Value}, rawCells deep0 zs cs = some (xs, []) → cs.length = xs.length ∧ ∀ (i : Nat) c x, cs[i]? = some c → xs[i]? = some x → ∃ z, rawCell deep0 z c = some x
  | [], cs, xs, h => by
    simp only [rawCells, Option.some.injEq, Prod.mk.injEq] at h
    obtain ⟨rfl, rfl⟩ := h
    exact ⟨rfl, fun i c x hc => by simp at hc⟩
  | z :: zs, [], xs, h => by simp [rawCells] at h
  | z :: zs, c :: cs, xs, h => by
    unfold rawCells at h
    split at h
    · rename_i x hx
      split at h
      · rename_i xs' r hxs
        simp only [Option.some.injEq, Prod.mk.injEq] at h
        obtain ⟨rfl, rfl⟩ := h
        obtain ⟨h1, h2⟩ := rawCells0 hxs
        refine ⟨by simp [h1], fun i c' x' hc hx' => ?_⟩
        cases i with
        | zero => simp at hc hx'; subst hc; subst hx'; exact ⟨z, hx⟩
        | succ i => exact h2 i c' x' (by simpa using hc) (by simpa using hx')
      · cases h
    · cases h
theorem unraw {z c x v' : Value} (h : rawV deep0 z c = some x) (hd : DRa μ.z x v') : VRa μ c v' := by
  unfold rawV at h
  split at h
  · split at h
    · rename_i cs
      split at h
      · rename_i xs hxs
        simp only [Option.some.injEq] at h; subst h
        rcases hd with ⟨h1, _⟩ | ⟨xs', ys, h1, rfl, hys⟩
        · simp [isAggV] at h1
        · simp only [Value.agg.injEq] at h1; subst h1
          obtain ⟨h2, h3⟩ := rawCells0 hxs
          refine .agg ⟨by rw [h2, ← hys.1], fun i c hc => ?_⟩
          have hlt := (List.getElem?_eq_some_iff.1 hc).1
          have hx := List.getElem?_eq_getElem (l := xs) (i := i) (by omega)
          obtain ⟨y, hy, r⟩ := hys.2 i _ (show xs.toArray.toList[i]? = _ from by rw [List.toList_toArray]; exact hx)
          obtain ⟨z', hz'⟩ := h3 i c _ hc hx
          exact ⟨y, hy, unraw1 hz' r⟩
      · cases h
    · cases h
  · rcases hd with ⟨_, hd⟩ | ⟨xs', ys, h1, rfl, hys⟩
    · exact .one (unraw1 h hd)
    · have := rawCell_noAgg h
      rw [h1] at this; cases this
theorem unraws : ∀ {zs cs xs vs' : List Value}, rawVs deep0 zs cs = some xs → All2 (DRa μ.z) xs vs' → All2 (VRa μ) cs vs'
  | [], [], xs, vs', h, hv => by
    simp only [rawVs, Option.some.injEq] at h; subst h
    rw [hv.inv_nil]; exact All2.nil
  | z :: zs, v :: vs, xs, vs', h, hv => by
    unfold rawVs at h
    split at h
    · rename_i x xs' hx hxs
      simp only [Option.some.injEq] at h; subst h
      obtain ⟨v', l, rfl, r, hl⟩ := hv.inv_cons
      exact All2.cons (unraw hx r) (unraws hxs hl)
    · cases h
  | [], _ :: _, _, _, h, _ => by simp [rawVs] at h
  | _ :: _, [], _, _, h, _ => by simp [rawVs] at h
theorem rawVs_len {deep : Value → Value → Option (List Value)} : ∀ {zs cs xs : List Value}, rawVs deep zs cs = some xs → xs.length = cs.length
  | [], [], xs, h => by simp only [rawVs, Option.some.injEq] at h; subst h; rfl
  | z :: zs, v :: vs, xs, h => by
    unfold rawVs at h
    split at h
    · rename_i x xs' hx hxs
      simp only [Option.some.injEq] at h; subst h
      simp [rawVs_len hxs]
    · cases h
  | [], _ :: _, _, h => by simp [rawVs] at h
  | _ :: _, [], _, h => by simp [rawVs] at h

theorem freezeL_get : ∀ {l : List Nat} {h : Hp}, (freezeL h l).next = h.next ∧ ∀ b x, (freezeL h l).get b = some x → ∃ x0, h.get b = some x0 ∧ (x = x0 ∨ x = roB x0) ∧ (b ∈ l → isRowB x0 = true → x = roB x0)
  | [], h => ⟨rfl, fun b x hx => ⟨x, hx, .inl rfl, fun h => by simp at h⟩⟩
  | c :: l, h => by
    have roro : ∀ x, roB (roB x) = roB x := fun x => by cases x <;> rfl
    have rowro : ∀ x, isRowB (roB x) = isRowB x := fun x => by cases x <;> rfl
    unfold freezeL
    split
    · rename_i y hy
      have hcn := Hp.lt_of_get hy
      split
      · rename_i hrow
        obtain ⟨h1, h2⟩ := freezeL_get (l := l) (h := h.put c (some (roB y)))
        refine ⟨h1, fun b x hx => ?_⟩
        obtain ⟨x0, h3, h4, h5⟩ := h2 b x hx
        rw [Hp.get_put _ _ _ _ hcn] at h3
        split at h3
        · rename_i e; subst e
          simp only [Option.some.injEq] at h3; subst h3
          refine ⟨y, hy, .inr ?_, fun _ _ => ?_⟩ <;> (rcases h4 with rfl | rfl <;> simp [roro])
        · rename_i e
          refine ⟨x0, h3, h4, fun hb hr => ?_⟩
          rcases List.mem_cons.1 hb with rfl | hb
          · exact absurd rfl e
          · exact h5 hb hr
      · rename_i hrow
        obtain ⟨h1, h2⟩ := freezeL_get (l := l) (h := h)
        refine ⟨h1, fun b x hx => ?_⟩
        obtain ⟨x0, h3, h4, h5⟩ := h2 b x hx
        refine ⟨x0, h3, h4, fun hb hr => ?_⟩
        rcases List.mem_cons.1 hb with rfl | hb
        · rw [hy] at h3; simp only [Option.some.injEq] at h3; subst h3; exact absurd hr hrow
        · exact h5 hb hr
    · rename_i hy
      obtain ⟨h1, h2⟩ := freezeL_get (l := l) (h := h)
      refine ⟨h1, fun b x hx => ?_⟩
      obtain ⟨x0, h3, h4, h5⟩ := h2 b x hx
      refine ⟨x0, h3, h4, fun hb hr => ?_⟩
      rcases List.mem_cons.1 hb with rfl | hb
      · rw [hy] at h3; cases h3
      · exact h5 hb hr

/-- WHAT A CALL OF SUCH A FUNCTION COMES TO, from a world in which all that it looks at is frozen. -/
structure POut (z0 : Nat → Nat → Option Value) (base : Nat) (w : World) (F : PF) (d : F.D) (v' : Value) (w' : World) (z2 : Nat → Nat → Option Value) (tk : Option Pl) : Prop where
  below : RowKit.Below w.heap.size w w'
  zle : ∀ c i a, z0 c i = some a → z2 c i = some a
  znew : ∀ c i a, z2 c i = some a → z0 c i = some a ∨ w.heap.size ≤ c
  zheap : ∀ c i a, z2 c i = some a → ∃ arr e fr, w'.heap[c]? = some (.cells arr e fr) ∧ arr[i]? = some a
  val : ∀ {μ : Mu} {b : Nat}, μ.z = z2 → μ b = tk → VR μ (if F.fresh then (freshV (F.res d) b).getD (.bool false) else resV (F.res d)) v'
  isf : F.fresh = true → ∀ b, (freshV (F.res d) b).isSome = true
  tok : ∀ p, tk = some p → F.fresh = true ∧ w.heap.size ≤ p.c ∧ (∀ c i a, z2 c i = some a → p.c = c → i < p.s) ∧ ∃ arr e fr, w'.heap[p.c]? = some (.cells arr e fr) ∧ arr.size = p.N ∧ ∀ i, i < arr.size → ¬ (fr.1 ≤ i ∧ i < fr.2)

theorem asDeep_dsl {z : Value} {xs : List Value} : asDeep (dsl z xs) = some (z, xs) := by unfold asDeep dsl; rfl
theorem inv_osq1 {μ : Mu} {z v' : Value} {xs : List Value} {b : Nat} (h : VR0 μ (Abs.osq z xs b 1) v') : ∃ a n, v' = .slice a n n ∧ DR μ.z (dsl z xs) v' ∧ xs.length = n := by
  generalize hg : Abs.osq z xs b 1 = d at h
  cases h with
  | osl hd h1 h2 =>
    simp [Abs.osq] at hg; obtain ⟨⟨rfl, rfl, hq⟩, h3⟩ := hg; subst h3
    rcases h2 with h2 | ⟨h2, _⟩
    · subst h2; exact ⟨_, _, rfl, hd, h1⟩
    · rw [← hq] at h2; cases h2
  | plain hp => subst hg; simp [plain1, Abs.osq] at hp
  | mark _ _ => simp [mk, Abs.osq] at hg
  | deep _ => simp [dsl, Abs.osq] at hg
  | fptr _ _ _ => simp [Abs.fptr, Abs.osq] at hg
  | rptr _ => simp [Abs.rptr, Abs.osq] at hg
  | mbool => simp [mkb, Abs.osq] at hg
  | _ => cases hg
theorem flat_vals (k : IntKind) (n : Int) : ∀ l : List Int, flatN (.int k n) (valsOf k l) = valsOf k l
  | [] => rfl
  | y :: l => by
    show flatN (.int k n) (.int k y :: valsOf k l) = .int k y :: valsOf k l
    rw [flatN_cons, flat_vals k n l]; rfl
theorem rowV_ok {μ : Mu} {base : Nat} {w : World} {h : Hp} {v v' u : Value} {ob : Prop} (e : rowV h v = some (ob, u)) (hob : ob) (hr : Rel μ base h.get w) (hv : VR μ v v') : isAggV u = false ∧ DR (muF μ h.get w fun _ => True).z u v' := by
  unfold rowV at e
  split at e
  case h_2 => cases e
  rename_i b o m k hden
  split at e
  case h_2 => cases e
  rename_i kk xs hb
  simp only [Option.some.injEq, Prod.mk.injEq] at e
  obtain ⟨rfl, rfl⟩ := e
  have hob : o + m ≤ xs.length := hob
  refine ⟨rfl, ?_⟩
  have h0 := hv.den
  rw [hden] at h0
  have hlen : (valsOf kk (std.take m (std.drop o xs))).length = m := by
    show ((List.take m (List.drop o xs)).map (Value.int kk)).length = m
    rw [List.length_map, List.length_take, List.length_drop]; omega
  rcases h0.inv_slice with ⟨p, k', hp, rfl, hlk, _⟩ | ⟨rfl, _, a', ⟨p, hp⟩, rfl⟩
  · obtain ⟨arr, e, fr, h4, h5, h6, h7⟩ := hr.blk b p _ hp hb
    have cell : ∀ i y, (flatN (.int kk 0) (valsOf kk (std.take m (std.drop o xs))))[i]? = some y → i < m ∧ arr[p.s + (o + i)]? = some y ∧ plain1 y = true := by
      intro i y hy
      rw [flat_vals] at hy
      have hi := (List.getElem?_eq_some_iff.1 hy).1
      rw [hlen] at hi
      have hy : ((List.take m (List.drop o xs)).map (Value.int kk))[i]? = some y := hy
      rw [List.getElem?_map, List.getElem?_take, if_pos hi, List.getElem?_drop, List.getElem?_eq_getElem (by omega)] at hy
      simp only [Option.map_some, Option.some.injEq] at hy
      subst hy
      have hc : (Row.ints kk xs).cells[o + i]? = some (.int kk xs[o + i]) := by
        show (xs.map (Value.int kk))[o + i]? = _
        rw [List.getElem?_map, List.getElem?_eq_getElem (by omega)]; rfl
      obtain ⟨v', h8, h9⟩ := h6 _ _ hc
      have := vr_plain_eq (.a (.one h9)) rfl
      subst this
      exact ⟨hi, h8, rfl⟩
    refine .sl (fun i => arr.getD (p.s + (o + i)) (.bool false)) hlen hlk (fun i y hy => ?_) (fun i y hy => ?_)
    · obtain ⟨hi, ha, _⟩ := cell i y hy
      show zf _ _ _ _ _ _ = _
      unfold zf
      rw [if_pos ⟨b, p, _, trivial, hp, hb, ⟨rfl, rfl⟩, rfl, by omega⟩, h4]
      show arr[o + p.s + i]? = _
      rw [Array.getD_eq_getD_getElem?, ha, show o + p.s + i = p.s + (o + i) from by omega, ha]; rfl
    · obtain ⟨hi, ha, hpl⟩ := cell i y hy
      rw [Array.getD_eq_getD_getElem?, ha]
      exact .plain hpl
  · have : valsOf kk (std.take 0 (std.drop o xs)) = [] := List.eq_nil_of_length_eq_zero hlen
    rw [this]
    exact .nil
theorem pf_out {P : Program} (hP : ProgOk P) {C : Con} (hC : ConOk P C) {call : Caller} (hcall : CallOk P call) (F : PF) {fi : FuncId} {fn : Func} {c : Code} (hf : P.funcs[fi]? = some fn) (hb : fn.body = some c) {n : Nat} {LS : Loops} {d : F.D}
    (hbd : lawV std P C call n LS fn c (F.args d) (hpOf []) (F.done d)) {z0 : Nat → Nat → Option Value} {base : Nat} {w : World} (hbase : base ≤ w.heap.size) (hz0 : ∀ c i a, z0 c i = some a → ∃ arr e fr, w.heap[c]? = some (.cells arr e fr) ∧ arr[i]? = some a)
    {xs : List Value} (hraw : rawVs deep0 F.zs (F.args d) = some xs) {args' : Array Value} (hl : All2 (DRa z0) xs args'.toList) :
    Does P fi args' w fun v' w' => ∃ z2 tk, POut z0 base w F d v' w' z2 tk := by
  have hargs : All2 (VRa ⟨fun _ => none, z0⟩) (F.args d) args'.toList := unraws (μ := ⟨fun _ => none, z0⟩) hraw hl
  have htr : TR ⟨fun _ => none, z0⟩ (F.args d ++ List.replicate (fn.ntmps - (F.args d).length) undef) (args' ++ Array.replicate (fn.ntmps - args'.size) undef) := by
    unfold TR
    rw [Array.toList_append, Array.toList_replicate]
    have : (F.args d).length = args'.size := by rw [hargs.1, Array.length_toList]
    rw [this]
    exact (hargs.mono fun _ _ _ r => .a r).append (All2.replicate _ (.undef _))
  have hget : ∀ b, (hpOf []).get b = none := fun b => by rw [hpOf_get]; simp
  have hrel : Rel ⟨fun _ => none, z0⟩ base (hpOf []).get w := ⟨hbase, fun _ _ _ h => (by cases h), fun _ _ _ _ _ _ h => (by cases h), fun c i a h => ⟨hz0 c i a h, fun _ _ _ h => (by cases h)⟩⟩
  rw [← lawV_eq] at hbd
  have hn := hP.name hf
  refine .inr ⟨by simp [callFunc, hf, hn, hb], ?_⟩
  refine calls_of_wp hf hb ?_
  refine (runV_ok hP hC hcall n).1 LS (hpOf []).next c _ _ (hP.code hf hb) hbd (hpOf []).next (Nat.le_refl _) (Nat.le_refl _) ⟨htr, rfl, hrel, fun _ _ => rfl⟩ fun ex s' a' w' μ' hdone hk hp => ?_
  have hbel : RowKit.Below w.heap.size w w' := ⟨hp.fr.os, hp.fr.tape, hp.fr.output, hp.fr.size, fun k hk => hp.fr.block k hk fun b p x h => by cases h⟩
  have key : ∀ {v : Value}, resultsA P fn s' = some v → F.done d v s'.h → ∃ v', (results fn a'.tmps).run P w' = .ok v' w' ∧ ∃ z2 tk, POut z0 base w F d v' w' z2 tk := by
    intro v hres hd
    obtain ⟨v', h2, h3⟩ := resultsA_run hres hp.cfg.tmps hp.cfg.rel
    refine ⟨v', h2, ?_⟩
    unfold PF.done at hd
    split at hd
    case h_2 => exact hd.elim
    rename_i vs hvs
    split at hd
    · -- a slice of its own
      rename_i hfresh
      split at hd
      case h_2 => exact hd.elim
      rename_i r hres'
      split at hd
      case h_2 => exact hd.elim
      rename_i z ys hdeep
      have hfv : ∀ b, freshV (F.res d) b = some (osl z ys b) := fun b => by unfold freshV; rw [hres']; simp only [hdeep]
      have hzold : ∀ c i a, μ'.z c i = some a → z0 c i = some a ∨ w.heap.size ≤ c := fun c i a h => by
        rcases hp.fz c i a h with h | h | ⟨b0, p0, x0, h1, _⟩
        · exact .inl h
        · exact .inr h
        · cases h1
      split at hd
      · -- a row of its own
        rename_i ob z1 xs hrow
        split at hd
        case isFalse => exact hd.elim
        rename_i hze
        have := zeq_eq hze; subst this
        obtain ⟨hob, hd⟩ := hd
        subst hd
        unfold rowF at hrow
        split at hrow
        case h_2 => cases hrow
        rename_i b m k hden
        split at hrow
        case h_2 => cases hrow
        rename_i z2 xs2 hgb
        split at hrow
        case isFalse => cases hrow
        rename_i hkk
        obtain ⟨rfl, hzp⟩ := hkk
        simp only [Option.some.injEq, Prod.mk.injEq] at hrow
        obtain ⟨rfl, rfl, rfl⟩ := hrow
        have hob : m = xs2.length := hob
        have h0 := h3.den
        rw [hden] at h0
        have hk1 : UNK0 ≤ unk z2.cells.size := by unfold UNK0 unk; omega
        have hk2 : unk z2.cells.size - UNK0 = z2.cells.size := by unfold UNK0 unk; omega
        rcases h0.inv_slice with ⟨p, k', hpb, rfl, hlk, hcap⟩ | ⟨hm0, _, a', _, rfl⟩
        · have hcap : 0 + p.s + k' * z2.cells.size ≤ p.N := by
            rcases hcap with ⟨_, h⟩ | ⟨h, h'⟩
            · rw [hk2] at h; exact h
            · omega
          obtain ⟨arr, e, fr, h5, h6, h7, h8⟩ := hp.cfg.rel.blk b p _ hpb hgb
          have hnew : w.heap.size ≤ p.c := by
            rcases hp.own b p _ hpb hgb with h | ⟨_, _, _, h, _⟩
            · exact h
            · cases h
          have hless : Rel μ' base (s'.h.put b none).get w' := hp.cfg.rel.less fun b' p' x hb' hx => by
            rw [Hp.get_put _ _ _ _ (Hp.lt_of_get hgb)] at hx
            split at hx
            · cases hx
            · exact hx
          have hZ := muZ_rel (lo := p.s) (hi := p.s + m * z2.cells.size) hless h5 fun b' p' x hb' hx ho hcc => by
            rw [Hp.get_put _ _ _ _ (Hp.lt_of_get hgb)] at hx
            split at hx
            · cases hx
            · rename_i e2
              exact absurd hcc (hp.cfg.rel.inj b' b p' p x _ hb' hpb hx hgb e2 ho)
          have hle := (muZ_le (lo := p.s) (hi := p.s + m * z2.cells.size) hp.cfg.rel h5).z
          refine ⟨(muZ μ' p.c p.s (p.s + m * z2.cells.size) arr).z, some ⟨p.c, p.s + m * z2.cells.size, p.N⟩, hbel, fun c i a h => hle c i a (hp.zle c i a h), fun c i a h => ?_, fun c i a h => (hZ.frz c i a h).1, fun {μ b'} hz ht => ?_, fun _ b => by rw [hfv]; rfl, fun q hq => ?_⟩
          · have h : zAdd μ'.z p.c p.s (p.s + m * z2.cells.size) arr c i = some a := h
            unfold zAdd at h
            split at h
            · rename_i hc; exact .inr (by rw [hc.1]; exact hnew)
            · exact hzold c i a h
          · rw [if_pos hfresh, hfv]
            have hcell : ∀ (i : Nat) y, (flatN z2 xs2)[i]? = some y → i < m * z2.cells.size ∧ ∃ v', arr[p.s + i]? = some v' ∧ DR (muZ μ' p.c p.s (p.s + m * z2.cells.size) arr).z y v' := by
              intro i y hy
              have hi := (List.getElem?_eq_some_iff.1 hy).1
              rw [flatN_len, ← hob] at hi
              obtain ⟨v', h9, h10⟩ := h7 i y hy
              obtain ⟨z', x', rfl⟩ := flat_norm hy
              exact ⟨hi, v', h9, (raw_dr h10).mono hle⟩
            show VR μ (osl z2 xs2 b') _
            rw [Nat.zero_add]
            refine .zero (.osl (n := m) ?_ hob.symm (.inr ⟨rfl, ⟨p.c, p.s + m * z2.cells.size, p.N⟩, p.c, p.s, rfl, ht, rfl, rfl, by simpa using hcap⟩))
            rw [hz]
            refine .sl (fun i => arr.getD (p.s + i) (.bool false)) hob.symm hlk (fun i y hy => ?_) (fun i y hy => ?_)
            · obtain ⟨hi, v', h9, _⟩ := hcell i y hy
              show zAdd μ'.z p.c p.s (p.s + m * z2.cells.size) arr p.c (p.s + i) = _
              unfold zAdd
              rw [if_pos ⟨rfl, by omega, by omega⟩, Array.getD_eq_getD_getElem?, h9]; rfl
            · obtain ⟨hi, v', h9, h10⟩ := hcell i y hy
              rw [Array.getD_eq_getD_getElem?, h9]; exact h10
          · simp only [Option.some.injEq] at hq; subst hq
            refine ⟨hfresh, hnew, fun c i a h hcc => ?_, arr, e, fr, h5, h6, (h8 rfl).2.1⟩
            have h : zAdd μ'.z p.c p.s (p.s + m * z2.cells.size) arr c i = some a := h
            unfold zAdd at h
            split at h
            · rename_i hc; exact hc.2.2
            · have := (hp.cfg.rel.frz c i a h).2 b p _ hpb hgb rfl hcc
              show i < p.s + m * z2.cells.size
              omega
        · have hx : xs2 = [] := List.eq_nil_of_length_eq_zero (by omega)
          subst hx
          refine ⟨μ'.z, none, hbel, fun c i a h => hp.zle c i a h, hzold, fun c i a h => (hp.cfg.rel.frz c i a h).1, fun {μ b} hz ht => ?_, fun _ b => by rw [hfv]; rfl, fun p h => by cases h⟩
          rw [if_pos hfresh, hfv]
          exact .zero (.osl .nil rfl (.inl rfl))
      split at hd
      · -- nil
        rcases resL_rel hvs h3 with ⟨u, e, rfl, hnt⟩ | ⟨hl1, _⟩
        · simp only [List.cons.injEq, and_true] at e
          subst e
          subst hd
          refine ⟨μ'.z, none, hbel, fun c i a h => hp.zle c i a h, hzold, fun c i a h => (hp.cfg.rel.frz c i a h).1, fun {μ b} hz ht => ?_, fun _ b => by rw [hfv]; rfl, fun p h => by cases h⟩
          rw [if_pos hfresh, hfv, h3.eq_of_plain rfl]
          exact .zero (.osl .nil rfl (.inl rfl))
        · simp at hl1
      · rename_i f xs
        split at hd
        case h_3 => exact hd.elim
        case h_2 =>
          rename_i z1 b hf'
          split at hd
          case isFalse => exact hd.elim
          rename_i hze
          have := zeq_eq hze; subst this
          subst hd
          have hf' : f = #[z1, .slice none b 1] := by rw [← Array.toList_inj, hf']
          subst hf'
          rcases resL_rel hvs h3 with ⟨u, e, rfl, hnt⟩ | ⟨hl1, _⟩
          · simp only [List.cons.injEq, and_true] at e
            subst e
            have e : Value.func (Fn.yield 5) #[z1, .slice none b 1] xs = osq z1 xs.toList b 1 := by simp [osq]
            rw [e] at h3
            obtain ⟨a, n', rfl, h5, h6⟩ := inv_osq1 (h3.zero_of_basic rfl)
            refine ⟨μ'.z, none, hbel, fun c i a h => hp.zle c i a h, hzold, fun c i a h => (hp.cfg.rel.frz c i a h).1, fun {μ b'} hz ht => ?_, fun _ b => by rw [hfv]; rfl, fun p h => by cases h⟩
            rw [if_pos hfresh, hfv]
            exact .zero (.osl (by rw [hz]; exact h5) h6 (.inl rfl))
          · simp at hl1
        rename_i z1 b hf'
        split at hd
        case isFalse => exact hd.elim
        rename_i hze
        have := zeq_eq hze; subst this
        split at hd
        case h_2 => exact hd.elim
        rename_i hgb
        subst hd
        have hf' : f = #[z1, .slice none b 0] := by rw [← Array.toList_inj, hf']
        subst hf'
        rcases resL_rel hvs h3 with ⟨u, e, rfl, hnt⟩ | ⟨hl1, _⟩
        · simp only [List.cons.injEq, and_true] at e
          subst e
          have e : Value.func (Fn.yield 5) #[z1, .slice none b 0] xs = osl z1 xs.toList b := by simp [osl, osq]
          rw [e] at h3
          obtain ⟨a, n', k, rfl, h5, h6, h7⟩ := (h3.zero_of_basic rfl).inv_osl
          refine ⟨μ'.z, μ' b, hbel, fun c i a h => hp.zle c i a h, hzold, fun c i a h => (hp.cfg.rel.frz c i a h).1, fun {μ b'} hz ht => ?_, fun _ b => by rw [hfv]; rfl, fun p hp' => ⟨hfresh, ?_, fun c i a h hcc => (hp.cfg.rel.frz c i a h).2 b p _ hp' hgb rfl hcc, ?_⟩⟩
          · rw [if_pos hfresh, hfv]
            refine .zero (.osl (by rw [hz]; exact h5) h6 (h7.imp id fun ⟨p, c, o, h8, h9, h10⟩ => ⟨rfl, p, c, o, h8, by rw [ht]; exact h9, h10⟩))
          · rcases hp.own b p _ hp' hgb with h | ⟨_, _, _, h, _⟩
            · exact h
            · cases h
          · obtain ⟨arr, e, fr, h8, h9, h10, h11⟩ := hp.cfg.rel.blk b p _ hp' hgb
            exact ⟨arr, e, fr, h8, h9, (h11 rfl).2.1⟩
        · simp at hl1
      · exact hd.elim
    · rename_i hfresh
      have znew : ∀ c i a, (muF μ' s'.h.get w' fun _ => True).z c i = some a → z0 c i = some a ∨ w.heap.size ≤ c := fun c i a h => by
        rcases freeze_sim _ c i a h with h | h | ⟨b0, p0, x0, h1, h4, h5, h6⟩
        · rcases hp.fz c i a h with h | h | ⟨b0, p0, x0, h1, _⟩
          · exact .inl h
          · exact .inr h
          · cases h1
        · exact .inr (Nat.le_trans hp.fr.size h)
        · rcases hp.own b0 p0 x0 h1 h4 with h7 | ⟨_, _, _, h7, _⟩
          · exact .inr (by omega)
          · cases h7
      split at hd
      · rename_i ob u hrow
        obtain ⟨hob, hd⟩ := hd
        unfold sameO at hd
        split at hd
        case h_2 => exact hd.elim
        rename_i x y hx hy
        simp only [Option.some.injEq] at hx
        subst hx hd
        obtain ⟨g1, g2⟩ := rowV_ok hrow hob hp.cfg.rel h3
        refine ⟨(muF μ' s'.h.get w' fun _ => True).z, none, hbel, fun c i a h => (muF_le hp.cfg.rel _).z _ _ _ (hp.zle c i a h), znew, fun c i a h => ((freeze_rel hp.cfg.rel fun _ => True).frz c i a h).1, fun {μ b} hz ht => ?_, fun h => absurd h hfresh, fun p h => by cases h⟩
        rw [if_neg hfresh]
        refine resV_rel ?_
        have h8 : All2 (DRa (muF μ' s'.h.get w' fun _ => True).z) [u] [v'] := All2.cons (.inl ⟨g1, g2⟩) All2.nil
        rw [← hz] at h8
        have h9 := unraws hy h8
        have hlen := rawVs_len hy
        left
        obtain ⟨u0, e0⟩ := List.length_eq_one_iff.1 (show (F.res d).length = 1 by rw [← hlen]; rfl)
        rw [e0] at h9
        obtain ⟨b', m', e1, e2, _⟩ := h9.inv_cons
        simp at e1
        exact ⟨u0, e0, by rw [e1.1]; exact e2⟩
      · unfold sameO at hd
        split at hd
        case h_2 => exact hd.elim
        rename_i x y hx hy
        subst hd
        refine ⟨(muF μ' s'.h.get w' fun _ => True).z, none, hbel, fun c i a h => (muF_le hp.cfg.rel _).z _ _ _ (hp.zle c i a h), fun c i a h => ?_, fun c i a h => ((freeze_rel hp.cfg.rel fun _ => True).frz c i a h).1, fun {μ b} hz ht => ?_, fun h => absurd h hfresh, fun p h => by cases h⟩
        · rcases freeze_sim _ c i a h with h | h | ⟨b0, p0, x0, h1, h4, h5, h6⟩
          · rcases hp.fz c i a h with h | h | ⟨b0, p0, x0, h1, _⟩
            · exact .inl h
            · exact .inr h
            · cases h1
          · exact .inr (Nat.le_trans hp.fr.size h)
          · rcases hp.own b0 p0 x0 h1 h4 with h7 | ⟨_, _, _, h7, _⟩
            · exact .inr (by omega)
            · cases h7
        · rw [if_neg hfresh]
          have hd6 : ∀ {z v v' xs}, deepV s'.h (fun _ => true) 6 z v = some xs → VR1 μ' v v' → DR (muF μ' s'.h.get w' fun _ => True).z (dsl z xs) v' := fun hd hv => deepV_ok (fun _ _ => trivial) hp.cfg.rel 6 hd hv
          refine resV_rel ?_
          have hlen := rawVs_len hy
          have hlen2 := rawVs_len hx
          rcases resL_rel hvs h3 with ⟨u, rfl, rfl, hnt⟩ | ⟨hl1, ys, rfl, hys⟩
          · have h8 := rawVs_ok hd6 deepV_one hx (All2.cons h3 All2.nil)
            rw [← hz] at h8
            have h9 := unraws hy h8
            left
            obtain ⟨u0, e0⟩ := List.length_eq_one_iff.1 (show (F.res d).length = 1 by rw [← hlen, hlen2]; rfl)
            rw [e0] at h9
            obtain ⟨b', m', e1, e2, _⟩ := h9.inv_cons
            simp at e1
            exact ⟨u0, e0, by rw [e1.1]; exact e2⟩
          · have h8 := rawVs_ok hd6 deepV_one hx (hys.mono fun _ _ _ r => .a r)
            rw [← hz] at h8
            have h9 := unraws hy h8
            exact .inr ⟨by rw [← hlen, hlen2]; exact hl1, ys, rfl, h9⟩
  unfold resK at hdone
  split at hdone
  · split at hdone
    · rename_i v hres
      obtain ⟨v', h2, h3⟩ := key hres hdone
      exact ⟨hp.cfg.defers, v', h2, v', rfl, h3⟩
    · exact hdone.elim
  · split at hdone
    · rename_i v hres
      obtain ⟨v', h2, h3⟩ := key hres hdone
      exact ⟨hp.cfg.defers, v', h2, v', rfl, h3⟩
    · exact hdone.elim
  · exact hdone.elim

/-- What is behind a call, where some of the caller's blocks have been frozen. -/
theorem cout_p {F : PF} {h hF : Hp} {S : Nat → Prop} {d : F.D} {v' : Value} {w' : World} {z2 : Nat → Nat → Option Value} {tk : Option Pl} (hrel : Rel μ base h.get w) (hfree : ∀ b, h.next ≤ b → μ b = none)
    (hFn : hF.next = h.next) (hFg : ∀ b x, hF.get b = some x → gF h.get S b = some x ∨ ∃ x0, h.get b = some x0 ∧ x = roB x0) (hout : POut (muF μ h.get w S).z base w F d v' w' z2 tk) {K : Value → Hp → Prop} (hK : F.leave d hF K) :
    ∃ v h' μ', K v h' ∧ COut μ base h w v h' v' w' μ' ∧ (F.fresh = false → h' = hF ∧ v = resV (F.res d) ∧ ∀ b, μ' b = μ b) := by
  have hfz := freeze_rel hrel S
  have old : ∀ {c : Nat}, c < w.heap.size → w'.heap[c]? = w.heap[c]? := fun hc => hout.below.block _ hc
  have back : ∀ {b x}, hF.get b = some x → ∃ x0, h.get b = some x0 ∧ (ownB x = true → ownB x0 = true ∧ gF h.get S b = some x) ∧ (∀ {μ' : Mu} {w' : World} {p : Pl}, BR μ' base w' p x0 → BR μ' base w' p x) := by
    intro b x hx
    rcases hFg b x hx with h1 | ⟨x0, h1, rfl⟩
    · have h1' := h1
      unfold gF at h1'
      split at h1'
      · cases e : h.get b with
        | none => rw [e] at h1'; cases h1'
        | some x0 =>
          rw [e] at h1'
          simp only [Option.map_some, Option.some.injEq] at h1'; subst h1'
          exact ⟨x0, rfl, fun ho => ⟨(own_ro ho).1, h1⟩, fun hb => hb.ro⟩
      · exact ⟨x, h1', fun ho => ⟨ho, h1⟩, fun hb => hb⟩
    · refine ⟨x0, h1, fun ho => ⟨(own_ro ho).1, ?_⟩, fun hb => hb.ro⟩
      have hr := (own_ro ho).2
      unfold gF
      split
      · rw [h1]; rfl
      · rw [h1]; cases x0 <;> first | rfl | (simp [isRowB] at hr)
  have hnone : μ h.next = none := hfree _ (Nat.le_refl _)
  -- the numbers
  have main : ∀ (hh : Hp) (μ2 : Mu), μ2.z = z2 → (∀ b, b < h.next → μ2 b = μ b) → (∀ b, hh.next ≤ b → μ2 b = none) → h.next ≤ hh.next → (∀ b x p, hh.get b = some x → μ2 b = some p → (b < h.next ∧ hF.get b = some x) ∨ (b = h.next ∧ x = .cells [] false ∧ tk = some p)) → ∀ v, VR μ2 v v' → COut μ base h w v hh v' w' μ2 := by
    intro hh μ2 hz hlt hfr2 hnx hcase v hv
    have hle : Mu.le μ μ2 := by
      refine ⟨fun b p hb => ?_, fun c i a hc => ?_⟩
      · have hbl : b < h.next := by
          rcases Nat.lt_or_ge b h.next with h4 | h4
          · exact h4
          · rw [hfree b h4] at hb; cases hb
        rw [hlt b hbl]; exact hb
      · rw [hz]; exact hout.zle c i a ((muF_le hrel S).z c i a hc)
    refine ⟨hv, ⟨Nat.le_trans hrel.size hout.below.size, fun b p x hb hx => ?_, fun b b' p p' x x' hb hb' hx hx' hne ho => ?_, fun c i a hc => ⟨by rw [hz] at hc; exact hout.zheap c i a hc, fun b p x hb hx ho hcc => ?_⟩⟩, hfr2, ⟨hout.below.os, hout.below.tape, hout.below.output, hout.below.size, fun c hc _ => old hc⟩, fun b p x hb hx => ?_, fun i hi => hlt i hi, hnx, hle.z, fun c i a hc => ?_⟩
    · rcases hcase b x p hx hb with ⟨h1, h2⟩ | ⟨rfl, rfl, h2⟩
      · obtain ⟨x0, h3, _, h5⟩ := back h2
        rw [hlt b h1] at hb
        have h6 := hrel.blk b p x0 hb h3
        exact h5 (h6.keep hle (old h6.lt))
      · obtain ⟨_, h3, _, arr, e, fr, h4, h5, h6⟩ := hout.tok p h2
        exact ⟨arr, e, fr, h4, h5, fun i v hi => by simp at hi, fun _ => ⟨Nat.le_trans hrel.size h3, h6, fun h => by simp at h⟩⟩
    · rcases hcase b x p hx hb with ⟨h1, h2⟩ | ⟨rfl, rfl, h2⟩
      · rw [hlt b h1] at hb
        obtain ⟨x0, h3, h4, _⟩ := back h2
        rcases hcase b' x' p' hx' hb' with ⟨k1, k2⟩ | ⟨rfl, rfl, k2⟩
        · rw [hlt b' k1] at hb'
          obtain ⟨x0', k3, _, _⟩ := back k2
          exact hrel.inj b b' p p' x0 x0' hb hb' h3 k3 hne (h4 ho).1
        · obtain ⟨_, k3, _⟩ := hout.tok p' k2
          have := (hrel.blk b p x0 hb h3).lt
          omega
      · obtain ⟨_, h3, _⟩ := hout.tok p h2
        rcases hcase b' x' p' hx' hb' with ⟨k1, k2⟩ | ⟨rfl, rfl, k2⟩
        · rw [hlt b' k1] at hb'
          obtain ⟨x0', k3, _, _⟩ := back k2
          have := (hrel.blk b' p' x0' hb' k3).lt
          omega
        · exact absurd rfl hne
    · rw [hz] at hc
      rcases hcase b x p hx hb with ⟨h1, h2⟩ | ⟨rfl, rfl, h2⟩
      · rw [hlt b h1] at hb
        obtain ⟨x0, h3, h4, _⟩ := back h2
        rcases hout.znew c i a hc with h6 | h6
        · exact (hfz.frz c i a h6).2 b p x hb (h4 ho).2 ho hcc
        · have := (hrel.blk b p x0 hb h3).lt
          omega
      · exact (hout.tok p h2).2.2.1 c i a hc hcc
    · rcases hcase b x p hx hb with ⟨h1, h2⟩ | ⟨rfl, rfl, h2⟩
      · rw [hlt b h1] at hb
        obtain ⟨x0, h3, h4, _⟩ := back h2
        exact .inr ⟨b, p, x0, hb, h3, fun ho => (h4 ho).1, rfl⟩
      · exact .inl (hout.tok p h2).2.1
    · rw [hz] at hc
      rcases hout.znew c i a hc with h6 | h6
      · rcases freeze_sim S c i a h6 with h7 | h7 | h7
        · exact .inl h7
        · exact .inr (.inl h7)
        · exact .inr (.inr h7)
      · exact .inr (.inl h6)
  unfold PF.leave at hK
  split at hK
  · rename_i hfresh
    split at hK
    · rename_i v hv
      refine ⟨v, _, ⟨fun b => if b = h.next then tk else μ b, z2⟩, hK, main _ _ rfl (fun b hb => if_neg (by omega)) (fun b hb => ?_) (by simp [hFn]) (fun b x p hx hb => ?_) v ?_, fun h => by rw [hfresh] at h; cases h⟩
      · simp [hFn] at hb
        show (if b = h.next then tk else μ b) = none
        rw [if_neg (by omega)]; exact hfree b (by omega)
      · have hb : (if b = h.next then tk else μ b) = some p := hb
        rw [Hp.get_push, hFn] at hx
        split at hx
        · rename_i e
          rw [if_pos e] at hb
          simp only [Option.some.injEq] at hx
          exact .inr ⟨e, hx.symm, hb⟩
        · have := Hp.lt_of_get hx
          exact .inl ⟨by omega, hx⟩
      · have := hout.val (μ := ⟨fun b => if b = h.next then tk else μ b, z2⟩) (b := h.next) rfl (if_pos rfl)
        rw [if_pos hfresh] at this
        rw [hFn] at hv
        rw [hv] at this
        exact this
    · exact hK.elim
  · rename_i hfresh
    have htk : tk = none := by
      cases e : tk with
      | none => rfl
      | some p => exact absurd (hout.tok p e).1 hfresh
    refine ⟨_, hF, ⟨μ.f, z2⟩, hK, main hF ⟨μ.f, z2⟩ rfl (fun b hb => rfl) (fun b hb => hfree b (by omega)) (by omega) (fun b x p hx hb => ?_) _ ?_, fun _ => ⟨rfl, rfl, fun _ => rfl⟩⟩
    · have := Hp.lt_of_get hx
      exact .inl ⟨by omega, hx⟩
    · have := hout.val (μ := ⟨μ.f, z2⟩) (b := h.next) rfl (by rw [htk]; exact hnone)
      rw [if_neg hfresh] at this
      exact this

/-- Such a function keeps what is said of it. -/
structure PFOk (P : Program) (fi : FuncId) (F : PF) : Prop where
  out : ∀ {z0 : Nat → Nat → Option Value} {base : Nat} {w : World}, base ≤ w.heap.size → (∀ c i a, z0 c i = some a → ∃ arr e fr, w.heap[c]? = some (.cells arr e fr) ∧ arr[i]? = some a) →
    ∀ {d : F.D}, F.pre d → ∀ {xs : List Value}, rawVs deep0 F.zs (F.args d) = some xs → ∀ {args' : Array Value}, All2 (DRa z0) xs args'.toList → Does P fi args' w fun v' w' => ∃ z2 tk, POut z0 base w F d v' w' z2 tk
theorem pf_ok {P : Program} (hP : ProgOk P) {C : Con} (hC : ConOk P C) {call : Caller} (hcall : CallOk P call) (F : PF) {fi : FuncId} {fn : Func} {c : Code} (hf : P.funcs[fi]? = some fn) (hb : fn.body = some c) {n : Nat} {LS : F.D → Loops}
    (hbody : ∀ d, F.pre d → lawV std P C call n (LS d) fn c (F.args d) (hpOf []) (F.done d)) : PFOk P fi F :=
  ⟨fun {_ _ _} hbase hz0 {_} hpre {_} hraw {_} hl => pf_out hP hC hcall F hf hb (hbody _ hpre) hbase hz0 hraw hl⟩
theorem pcon_ok {P : Program} {F : PF} {fi : FuncId} (hF : PFOk P fi F) : ∀ args h K, pcon F args h K → CallSem P fi args h K := by
  intro args h K e μ base w args' hl hrel hfree
  unfold pcon at e
  split at e
  case h_2 => exact e.elim
  rename_i xs hxs
  split at e
  case h_2 => exact e.elim
  rename_i d hdec
  obtain ⟨hpre, hK⟩ := e
  have hraw := F.ok hxs hdec
  have hd : ∀ {z v v' xs}, deepV h (fun b => (bsOf h args).contains b) 6 z v = some xs → VR1 μ v v' → DR (muF μ h.get w fun b => b ∈ bsOf h args).z (dsl z xs) v' := fun hd hv => deepV_ok (S := fun b => b ∈ bsOf h args) (fun b hb => by simpa using hb) hrel 6 hd hv
  have hl2 := rawVs_ok hd deepV_one hxs hl
  have hfz := freeze_rel hrel fun b => b ∈ bsOf h args
  obtain ⟨f1, f2⟩ := freezeL_get (l := bsOf h args) (h := h)
  have conv : ∀ {v' : Value} {w' : World}, (∃ z2 tk, POut (muF μ h.get w fun b => b ∈ bsOf h args).z base w F d v' w' z2 tk) → ∃ v h' μ', K v h' ∧ COut μ base h w v h' v' w' μ' := by
    rintro v' w' ⟨z2, tk, hout⟩
    obtain ⟨v, h', μ', h1, h2, _⟩ := cout_p (S := fun b => b ∈ bsOf h args) hrel hfree f1 (fun b x hx => by
      obtain ⟨x0, h3, h4, h5⟩ := f2 b x hx
      by_cases hr : isRowB x0 = true ∧ b ∈ bsOf h args
      · exact .inr ⟨x0, h3, h5 hr.2 hr.1⟩
      · rcases h4 with rfl | rfl
        · left
          unfold gF
          split
          · rename_i hm
            rw [h3]
            have : isRowB x ≠ true := fun h => hr ⟨h, hm⟩
            cases x <;> first | rfl | (simp [isRowB] at this)
          · exact h3
        · exact .inr ⟨x0, h3, rfl⟩) hout hK
    exact ⟨v, h', μ', h1, h2⟩
  rcases hF.out (z0 := (muF μ h.get w fun b => b ∈ bsOf h args).z) hrel.size (fun c i a h => (hfz.frz c i a h).1) hpre hraw hl2 with ⟨v', w', h3, h4⟩ | ⟨h3, h4⟩
  · exact .inl ⟨v', w', h3, conv h4⟩
  · exact .inr ⟨h3, h4.mono fun en w' ⟨v', he, ho⟩ => ⟨v', he, conv ho⟩⟩
/-- In a region of open order, one whose result is a slice of its own. -/
noncomputable def dfcon (F : PF) (args : List Value) (h : Hp) (K : Value → Hp → Prop) : Prop :=
  match rawVs (deepV h (fun _ => false) 6) F.zs args with
  | some xs => match F.dec xs with
    | some d => F.pre d ∧ (match freshV (F.res d) h.next with
      | some v => K v (h.push (.cells [] false))
      | none => False)
    | none => False
  | none => False
theorem dfcon_ok {P : Program} {F : PF} (hnf : F.fresh = true) {fi : FuncId} (hF : PFOk P fi F) : ∀ args h K, dfcon F args h K → FunSem P fi args h K := by
  intro args h K e
  unfold dfcon at e
  split at e
  case h_2 => exact e.elim
  rename_i xs hxs
  split at e
  case h_2 => exact e.elim
  rename_i d hdec
  obtain ⟨hpre, hK⟩ := e
  split at hK
  case h_2 => exact hK.elim
  rename_i v hv
  have hraw := F.ok hxs hdec
  refine ⟨v, h.push (.cells [] false), hK, by simp, fun {μ base w args'} hl hrel hfr => ?_⟩
  have hnone : μ h.next = none := hfr _ (Nat.le_refl _) (by simp)
  have hD := dvOk_none hrel
  have hl2 := rawVs_ok (μ := μ) (fz := μ.z) (fun hd hv => hD.ok hd hv) deepV_one hxs hl
  have conv : ∀ {v' : Value} {w' : World}, (∃ z2 tk, POut μ.z base w F d v' w' z2 tk) → ∃ μ', Out μ base h w v (h.push (.cells [] false)) v' w' μ' := by
    rintro v' w' ⟨z2, tk, hout⟩
    have old : ∀ {c : Nat}, c < w.heap.size → w'.heap[c]? = w.heap[c]? := fun hc => hout.below.block _ hc
    have hcase : ∀ {b : Nat} {p : Pl}, (if b = h.next then tk else μ b) = some p → ∀ {x : Blk}, (h.push (.cells [] false)).get b = some x → (b ≠ h.next ∧ μ b = some p ∧ h.get b = some x) ∨ (b = h.next ∧ tk = some p ∧ x = .cells [] false) := by
      intro b p hb x hx
      rw [Hp.get_push] at hx
      split at hb
      · rename_i e
        rw [if_pos e] at hx
        simp only [Option.some.injEq] at hx
        exact .inr ⟨e, hb, hx.symm⟩
      · rename_i e
        rw [if_neg e] at hx
        exact .inl ⟨e, hb, hx⟩
    have hle : Mu.le μ ⟨fun b => if b = h.next then tk else μ b, z2⟩ := by
      refine ⟨fun b p hb => ?_, hout.zle⟩
      show (if b = h.next then tk else μ b) = some p
      rw [if_neg (by intro e; subst e; rw [hnone] at hb; cases hb)]; exact hb
    have hval : VR ⟨fun b => if b = h.next then tk else μ b, z2⟩ v v' := by
      have := hout.val (μ := ⟨fun b => if b = h.next then tk else μ b, z2⟩) (b := h.next) rfl (if_pos rfl)
      rw [if_pos hnf, hv] at this; exact this
    refine ⟨⟨fun b => if b = h.next then tk else μ b, z2⟩, hval, ⟨hle, ⟨Nat.le_trans hrel.size hout.below.size, fun b p x hb hx => ?_, fun b b' p p' x x' hb hb' hx hx' hne ho => ?_, fun c i a hc => ⟨hout.zheap c i a hc, fun b p x hb hx ho hcc => ?_⟩⟩, ⟨hout.below.os, hout.below.tape, hout.below.output, hout.below.size, fun c hc _ => old hc⟩, fun b p x hb hx => ?_, fun c i a hc => (hout.znew c i a hc).imp id .inl⟩, by simp, fun b hb => ?_, Keeps.push _ _ _⟩
    · rcases hcase hb hx with ⟨_, h1, h2⟩ | ⟨_, h1, rfl⟩
      · have := hrel.blk b p x h1 h2
        exact this.keep hle (old this.lt)
      · obtain ⟨_, h3, _, arr, e, fr, h4, h5, h6⟩ := hout.tok p h1
        exact ⟨arr, e, fr, h4, h5, fun i v hi => by simp at hi, fun _ => ⟨Nat.le_trans hrel.size h3, h6, fun h => by simp at h⟩⟩
    · rcases hcase hb hx with ⟨_, h1, h2⟩ | ⟨e1, h1, rfl⟩
      · rcases hcase hb' hx' with ⟨_, k1, k2⟩ | ⟨_, k1, rfl⟩
        · exact hrel.inj b b' p p' x x' h1 k1 h2 k2 hne ho
        · obtain ⟨_, k3, _⟩ := hout.tok p' k1
          have := (hrel.blk b p x h1 h2).lt
          omega
      · obtain ⟨_, h3, _⟩ := hout.tok p h1
        rcases hcase hb' hx' with ⟨_, k1, k2⟩ | ⟨e2, k1, rfl⟩
        · have := (hrel.blk b' p' x' k1 k2).lt
          omega
        · exact absurd (e1.trans e2.symm) hne
    · rcases hcase hb hx with ⟨_, h1, h2⟩ | ⟨_, h1, rfl⟩
      · rcases hout.znew c i a hc with h6 | h6
        · exact (hrel.frz c i a h6).2 b p x h1 h2 ho hcc
        · have := (hrel.blk b p x h1 h2).lt
          omega
      · exact (hout.tok p h1).2.2.1 c i a hc hcc
    · rcases hcase hb hx with ⟨_, h1, h2⟩ | ⟨_, h1, rfl⟩
      · exact .inr ⟨b, p, x, h1, h2, id, rfl⟩
      · exact .inl (hout.tok p h1).2.1
    · have hb : (if b = h.next then tk else μ b) ≠ μ b := hb
      split at hb
      · rename_i e; subst e; simp
      · exact absurd rfl hb
  rcases hF.out (z0 := μ.z) hrel.size (fun c i a h => (hrel.frz c i a h).1) hpre hraw hl2 with ⟨v', w', h3, h4⟩ | ⟨h3, h4⟩
  · exact .inl ⟨v', w', h3, conv h4⟩
  · exact .inr ⟨h3, h4.mono fun en w' ⟨v', he, ho⟩ => ⟨v', he, conv ho⟩⟩
theorem dcon_ok {P : Program} {F : PF} (hnf : F.fresh = false) {fi : FuncId} (hF : PFOk P fi F) : ∀ args h K, dcon F args h K → FunSem P fi args h K := by
  intro args h K e
  unfold dcon at e
  split at e
  case h_2 => exact e.elim
  rename_i xs hxs
  split at e
  case h_2 => exact e.elim
  rename_i d hdec
  obtain ⟨hpre, hK⟩ := e
  have hraw := F.ok hxs hdec
  refine ⟨resV (F.res d), h, hK, Nat.le_refl _, fun {μ base w args'} hl hrel hfr => ?_⟩
  have hD := dvOk_none hrel
  have hl2 := rawVs_ok (μ := μ) (fz := μ.z) (fun hd hv => hD.ok hd hv) deepV_one hxs hl
  have conv : ∀ {v' : Value} {w' : World}, (∃ z2 tk, POut μ.z base w F d v' w' z2 tk) → ∃ μ', Out μ base h w (resV (F.res d)) h v' w' μ' := by
    rintro v' w' ⟨z2, tk, hout⟩
    have hnf' : ¬ F.fresh = true := by rw [hnf]; exact Bool.noConfusion
    have old : ∀ {c : Nat}, c < w.heap.size → w'.heap[c]? = w.heap[c]? := fun hc => hout.below.block _ hc
    have hle : Mu.le μ ⟨μ.f, z2⟩ := ⟨fun _ _ h => h, hout.zle⟩
    have hval : VR ⟨μ.f, z2⟩ (resV (F.res d)) v' := by
      have htk : tk = none := by
        cases e : tk with
        | none => rfl
        | some p => exact absurd (hout.tok p e).1 hnf'
      have hm : Mu.le ⟨fun b => if b = h.next then none else μ b, z2⟩ ⟨μ.f, z2⟩ := by
        refine ⟨fun b p hb => ?_, fun _ _ _ h => h⟩
        have hb : (if b = h.next then none else μ b) = some p := hb
        split at hb
        · cases hb
        · exact hb
      have hv := hout.val (μ := ⟨fun b => if b = h.next then none else μ b, z2⟩) (b := h.next) rfl (by rw [htk]; exact if_pos rfl)
      rw [if_neg hnf'] at hv
      exact hv.mono hm
    refine ⟨⟨μ.f, z2⟩, hval, ⟨hle, ⟨Nat.le_trans hrel.size hout.below.size, fun b p x hb hx => ?_, hrel.inj, fun c i a hc => ⟨hout.zheap c i a hc, fun b p x hb hx ho hcc => ?_⟩⟩, ⟨hout.below.os, hout.below.tape, hout.below.output, hout.below.size, fun c hc _ => old hc⟩, fun b p x hb hx => .inr ⟨b, p, x, hb, hx, id, rfl⟩, fun c i a hc => (hout.znew c i a hc).imp id .inl⟩, Nat.le_refl _, fun b hb => absurd rfl hb, .refl _ _⟩
    · have := hrel.blk b p x hb hx
      exact this.keep hle (old this.lt)
    · rcases hout.znew c i a hc with h6 | h6
      · exact (hrel.frz c i a h6).2 b p x hb hx ho hcc
      · have := (hrel.blk b p x hb hx).lt
        omega
  rcases hF.out (z0 := μ.z) hrel.size (fun c i a h => (hrel.frz c i a h).1) hpre hraw hl2 with ⟨v', w', h3, h4⟩ | ⟨h3, h4⟩
  · exact .inl ⟨v', w', h3, conv h4⟩
  · exact .inr ⟨h3, h4.mono fun en w' ⟨v', he, ho⟩ => ⟨v', he, conv ho⟩⟩
end

/-- A kind of data: a zero, a value with marks, what is read of raw data. -/
structure Cod (α : Type) where
  z : Value
  arg : α → Value
  dec : Value → Option α
  ok : ∀ {deep : Value → Value → Option (List Value)} {v x : Value} {a : α}, rawV deep z v = some x → dec x = some a → rawV deep0 z (arg a) = some x
  cell : ∀ {deep : Value → Value → Option (List Value)} {v x : Value} {a : α}, isAggV z = false → rawCell deep z v = some x → dec x = some a → rawCell deep0 z (arg a) = some x
theorem rawCell_int {deep : Value → Value → Option (List Value)} {k : IntKind} {n : Int} {v x : Value} (h : rawCell deep (.int k n) v = some x) : ∃ m, x = .int k m := by
  unfold rawCell at h
  simp only at h
  split at h
  · split at h
    · simp only [Option.some.injEq] at h; exact ⟨_, h.symm⟩
    · cases h
  · cases h
theorem rawCell_str {deep : Value → Value → Option (List Value)} {s : ByteArray} {v x : Value} (h : rawCell deep (.string s) v = some x) : ∃ m, x = .string m := by
  unfold rawCell at h
  simp only at h
  split at h
  · simp only [Option.some.injEq] at h; exact ⟨_, h.symm⟩
  · cases h
theorem rawCell_bool {deep : Value → Value → Option (List Value)} {s : Bool} {v x : Value} (h : rawCell deep (.bool s) v = some x) : ∃ m, x = .bool m := by
  unfold rawCell at h
  simp only at h
  split at h
  · simp only [Option.some.injEq] at h; exact ⟨_, h.symm⟩
  · split at h
    · simp only [Option.some.injEq] at h; exact ⟨_, h.symm⟩
    · cases h
  · cases h
theorem rawCell_dsl {deep : Value → Value → Option (List Value)} {z : Value} {v x : Value} (h : rawCell deep (dsl z []) v = some x) : ∃ xs, x = dsl z xs := by
  unfold rawCell dsl at h
  simp only at h
  cases e : deep z v with
  | none => rw [e] at h; cases h
  | some xs => rw [e] at h; simp only [Option.map_some, Option.some.injEq] at h; exact ⟨xs, h.symm⟩
def cI (k : IntKind) : Cod Int where
  z := .int k 0
  arg := fun n => mk (.int k n)
  dec := fun x => match x with | .int _ n => some n | _ => none
  ok := fun {deep v x a} h hd => by
    have h : rawCell deep (.int k 0) v = some x := h
    obtain ⟨m, rfl⟩ := rawCell_int h
    simp only [Option.some.injEq] at hd; subst hd
    show (if k = k then some (Value.int k m) else none) = _
    rw [if_pos rfl]
  cell := fun {deep v x a} _ h hd => by
    obtain ⟨m, rfl⟩ := rawCell_int h
    simp only [Option.some.injEq] at hd; subst hd
    show (if k = k then some (Value.int k m) else none) = _
    rw [if_pos rfl]
def cS : Cod ByteArray where
  z := .string ⟨#[]⟩
  arg := fun n => mk (.string n)
  dec := fun x => match x with | .string n => some n | _ => none
  ok := fun {deep v x a} h hd => by
    have h : rawCell deep (.string ⟨#[]⟩) v = some x := h
    obtain ⟨m, rfl⟩ := rawCell_str h
    simp only [Option.some.injEq] at hd; subst hd; rfl
  cell := fun {deep v x a} _ h hd => by
    obtain ⟨m, rfl⟩ := rawCell_str h
    simp only [Option.some.injEq] at hd; subst hd; rfl
def cB : Cod Bool where
  z := .bool false
  arg := fun n => mkb n
  dec := fun x => match x with | .bool n => some n | _ => none
  ok := fun {deep v x a} h hd => by
    have h : rawCell deep (.bool false) v = some x := h
    obtain ⟨m, rfl⟩ := rawCell_bool h
    simp only [Option.some.injEq] at hd; subst hd; rfl
  cell := fun {deep v x a} _ h hd => by
    obtain ⟨m, rfl⟩ := rawCell_bool h
    simp only [Option.some.injEq] at hd; subst hd; rfl
def cL (z : Value) (hz : zeq 5 z z = true) : Cod (List Value) where
  z := dsl z []
  arg := fun xs => dsl z xs
  dec := fun x => match x with | .func (.yield 1) _ xs => some xs.toList | _ => none
  ok := fun {deep v x a} h hd => by
    have h : rawCell deep (dsl z []) v = some x := h
    obtain ⟨m, rfl⟩ := rawCell_dsl h
    simp only [dsl, Option.some.injEq] at hd; subst hd
    show ((if zeq 5 z z then some m.toArray.toList else none).map fun xs => dsl z xs) = _
    rw [if_pos hz]; simp
  cell := fun {deep v x a} _ h hd => by
    obtain ⟨m, rfl⟩ := rawCell_dsl h
    simp only [dsl, Option.some.injEq] at hd; subst hd
    show ((if zeq 5 z z then some m.toArray.toList else none).map fun xs => dsl z xs) = _
    rw [if_pos hz]; simp
/-- A known value. -/
def cK (v : Value) (h0 : rawV deep0 v v = some v) (hq : ∀ deep u x, rawV deep v u = some x → x = v) (ha : isAggV v = false) : Cod Unit where
  z := v
  arg := fun _ => v
  dec := fun _ => some ()
  ok := fun {deep u x a} h _ => by rw [hq _ _ _ h]; exact h0
  cell := fun {deep u x a} _ h _ => by
    have e : ∀ (d : Value → Value → Option (List Value)) y, rawV d v y = rawCell d v y := fun d y => by
      unfold rawV
      split
      · simp [isAggV] at ha
      · rfl
    rw [hq deep u x (by rw [e]; exact h), ← e]; exact h0
/-- Cells one behind the other. -/
structure Cells (α : Type) where
  zs : List Value
  args : α → List Value
  dec : List Value → Option α
  ok : ∀ {deep : Value → Value → Option (List Value)} {cs xs r : List Value} {a : α}, rawCells deep zs cs = some (xs, r) → dec xs = some a → rawCells deep0 zs (args a) = some (xs, [])
def Cells.nil : Cells Unit where
  zs := []
  args := fun _ => []
  dec := fun xs => match xs with | [] => some () | _ => none
  ok := fun {deep cs xs r a} h hd => by
    simp only [rawCells, Option.some.injEq, Prod.mk.injEq] at h
    obtain ⟨rfl, rfl⟩ := h; rfl
def Cells.cons {α β : Type} (c : Cod α) (hc : isAggV c.z = false) (l : Cells β) : Cells (α × β) where
  zs := c.z :: l.zs
  args := fun a => c.arg a.1 :: l.args a.2
  dec := fun xs => match xs with
    | x :: r => match c.dec x, l.dec r with
      | some a, some b => some (a, b)
      | _, _ => none
    | [] => none
  ok := fun {deep cs xs r a} h hd => by
    cases cs with
    | nil => simp [rawCells] at h
    | cons u cs =>
      unfold rawCells at h
      split at h
      · rename_i x hx
        split at h
        · rename_i xs' r' hxs
          simp only [Option.some.injEq, Prod.mk.injEq] at h
          obtain ⟨rfl, rfl⟩ := h
          simp only at hd
          split at hd
          · rename_i a' b' ha hb
            simp only [Option.some.injEq] at hd; subst hd
            unfold rawCells
            simp only [c.cell hc hx ha, l.ok hxs hb]
          · cases hd
        · cases h
      · cases h
def cA {α : Type} (l : Cells α) : Cod α where
  z := .agg l.zs.toArray
  arg := fun a => .agg (l.args a).toArray
  dec := fun x => match x with | .agg cs => l.dec cs.toList | _ => none
  ok := fun {deep v x a} h hd => by
    unfold rawV at h
    simp only at h
    split at h
    · split at h
      · rename_i cs _ xs hxs
        simp only [Option.some.injEq] at h; subst h
        simp only at hd hxs
        unfold rawV
        simp only [l.ok hxs hd]
      · cases h
    · cases h
  cell := fun {deep v x a} h _ _ => by simp [isAggV] at h
/-- Arguments. -/
structure Args (α : Type) where
  zs : List Value
  args : α → List Value
  dec : List Value → Option α
  ok : ∀ {deep : Value → Value → Option (List Value)} {vs xs : List Value} {a : α}, rawVs deep zs vs = some xs → dec xs = some a → rawVs deep0 zs (args a) = some xs
def Args.nil : Args Unit where
  zs := []
  args := fun _ => []
  dec := fun xs => match xs with | [] => some () | _ => none
  ok := fun {deep vs xs a} h hd => by
    cases vs with
    | nil => simp only [rawVs, Option.some.injEq] at h; subst h; rfl
    | cons _ _ => simp [rawVs] at h
def Args.cons {α β : Type} (c : Cod α) (l : Args β) : Args (α × β) where
  zs := c.z :: l.zs
  args := fun a => c.arg a.1 :: l.args a.2
  dec := fun xs => match xs with
    | x :: r => match c.dec x, l.dec r with
      | some a, some b => some (a, b)
      | _, _ => none
    | [] => none
  ok := fun {deep vs xs a} h hd => by
    cases vs with
    | nil => simp [rawVs] at h
    | cons u vs =>
      unfold rawVs at h
      split at h
      · rename_i x xs' hx hxs
        simp only [Option.some.injEq] at h; subst h
        simp only at hd
        split at hd
        · rename_i a' b' ha hb
          simp only [Option.some.injEq] at hd; subst hd
          unfold rawVs
          simp only [c.ok hx ha, l.ok hxs hb]
        · cases hd
      · cases h
/-- A function of such arguments. -/
def pf {α : Type} (A : Args α) (pre : α → Prop) (zr : List Value) (res : α → List Value) (fresh : Bool := false) : PF := ⟨α, A.zs, A.args, A.dec, A.ok, pre, zr, res, fresh⟩

section
variable {μ : Mu} {base : Nat} {w : World}
end
end Go.Abs
end
section
namespace Go.Abs
open Go

noncomputable section
/-- Kinds of what fills a shape. -/
inductive FT where
  | int (k : IntKind)
  | str
  | boo
  | dl
  | me
  | com
def FT.T : FT → Type
  | .int _ => Int
  | .str => ByteArray
  | .boo => Bool
  | .dl => List Value
  | .me => List (Value × Value)
  | .com => Nat × Nat
def FT.put : (t : FT) → t.T → Filler
  | .int k, n => .val (.int k n)
  | .str, s => .val (.string s)
  | .boo, b => .val (.bool b)
  | .dl, l => .dl l
  | .me, l => .me l
  | .com, x => .val (.complex .f64 x.1 x.2)
def FT.get (t : FT) (f : Filler) : Option t.T :=
  match t with
  | .int k => match f with
    | .val (.int k' n) => if k = k' then some n else none
    | _ => none
  | .str => match f with
    | .val (.string s) => some s
    | _ => none
  | .boo => match f with
    | .val (.bool b) => some b
    | _ => none
  | .dl => match f with
    | .dl l => some l
    | _ => none
  | .me => match f with
    | .me l => some l
    | _ => none
  | .com => match f with
    | .val (.complex .f64 x y) => some (x, y)
    | _ => none
theorem FT.get_put {t : FT} {f : Filler} {x : t.T} (h : t.get f = some x) : f = t.put x := by
  cases t with
  | int k =>
    unfold FT.get at h
    simp only at h
    split at h
    · split at h
      · rename_i hk
        subst hk
        cases h; rfl
      · cases h
    · cases h
  | _ =>
    unfold FT.get at h
    simp only at h
    split at h
    · cases h; rfl
    · cases h
def FC : List FT → Type
  | [] => Unit
  | t :: r => t.T × FC r
def FC.puts : (l : List FT) → FC l → List Filler
  | [], _ => []
  | t :: r, d => t.put d.1 :: FC.puts r d.2
def FC.gets : (l : List FT) → List Filler → Option (FC l)
  | [], [] => some ()
  | t :: r, f :: fs => match t.get f with
    | some x => match FC.gets r fs with
      | some d => some (x, d)
      | none => none
    | none => none
  | _, _ => none
theorem FC.gets_puts : ∀ {l : List FT} {fs : List Filler} {d : FC l}, FC.gets l fs = some d → fs = FC.puts l d
  | [], [], d, _ => rfl
  | [], f :: fs, d, h => by cases h
  | t :: r, [], d, h => by cases h
  | t :: r, f :: fs, d, h => by
    unfold FC.gets at h
    split at h
    · rename_i x hx
      split at h
      · rename_i e he
        cases h
        show f :: fs = t.put x :: FC.puts r e
        rw [FT.get_put hx, FC.gets_puts he]
      · cases h
    · cases h

/-- A function of objects: what fills its arguments' shape; what is asked; its results' and blocks' shapes, and what fills them. -/
structure OF where
  ts : List FT
  sh : Shape
  pre : FC ts → Prop
  res : List SA
  obl : List (Option SB)
  out : FC ts → List Filler
def OF.spec (F : OF) : FSpec where
  D := FC F.ts
  sh := F.sh
  rho := fun a h => F.sh.find 0 ⟨a, h⟩
  fills := FC.puts F.ts
  pre := F.pre
  R := FC F.ts
  res := F.res
  oblocks := F.obl
  orho := fun vs h => (Shape.mk (F.res.map some) F.obl).find F.sh.blocks.length ⟨vs, h⟩
  ofills := F.out
  post := fun d r => r = d
def ocon (F : OF) (args : List Value) (h : Hp) (K : Value → Hp → Prop) : Prop :=
  match F.sh.matD (deepV h (fun _ => false) 6) true (F.sh.find 0 ⟨args, h⟩) ⟨args, h⟩ with
  | some fs => if nodupB (F.sh.find 0 ⟨args, h⟩) && (F.sh.find 0 ⟨args, h⟩).all fun b => decide (b < h.next) then
      match FC.gets F.ts fs with
      | some d => F.pre d ∧ F.spec.leave h (F.sh.find 0 ⟨args, h⟩) d K
      | none => False
    else False
  | none => False
def odone (F : OF) (d : FC F.ts) (v : Value) (h : Hp) : Prop :=
  match resL v with
  | some vs => match matL (SA.mat (deepV h (okF (F.spec.orho vs h)) 6) (F.spec.orho vs h)) F.res vs, blocksMat (deepV h (okF (F.spec.orho vs h)) 6) false (F.spec.orho vs h) h F.obl (F.spec.orho vs h) with
    | some x, some y => if headOk F.sh.blocks.length (F.spec.orho vs h) && nodupB (F.spec.orho vs h) && (F.obl.drop F.sh.blocks.length).all newB then F.out d = x ++ y else False
    | _, _ => False
  | none => False
end
theorem ocon_spec {F : OF} {args : List Value} {h : Hp} {K : Value → Hp → Prop} (e : ocon F args h K) : F.spec.con args h K := by
  unfold ocon at e
  unfold FSpec.con
  show (match F.sh.matD (deepV h (fun _ => false) 6) true (F.sh.find 0 ⟨args, h⟩) ⟨args, h⟩ with
    | some fs => if nodupB (F.sh.find 0 ⟨args, h⟩) && (F.sh.find 0 ⟨args, h⟩).all fun b => decide (b < h.next) then ∃ d, FC.puts F.ts d = fs ∧ F.pre d ∧ ∀ r, r = d → F.spec.leave h (F.sh.find 0 ⟨args, h⟩) r K else False
    | none => False)
  split at e
  · rename_i fs hm
    split at e
    · rename_i hc
      split at e
      · rename_i d hd
        rw [if_pos hc]
        exact ⟨d, (FC.gets_puts hd).symm, e.1, fun r hr => by subst hr; exact e.2⟩
      · exact e.elim
    · exact e.elim
  · exact e.elim
theorem odone_eq (F : OF) (d : FC F.ts) : odone F d = F.spec.done d := by
  funext v h
  unfold odone FSpec.done
  cases hv : resL v with
  | none => rfl
  | some vs =>
    simp only
    show _ = (match matL (SA.mat (deepV h (okF (F.spec.orho vs h)) 6) (F.spec.orho vs h)) F.res vs, blocksMat (deepV h (okF (F.spec.orho vs h)) 6) false (F.spec.orho vs h) h F.obl (F.spec.orho vs h) with
      | some x, some y => if headOk F.sh.blocks.length (F.spec.orho vs h) && nodupB (F.spec.orho vs h) && (F.obl.drop F.sh.blocks.length).all newB then ∃ r, F.out r = x ++ y ∧ r = d else False
      | _, _ => False)
    split
    · split
      · exact propext ⟨fun e => ⟨d, e, rfl⟩, fun ⟨r, e, hr⟩ => by subst hr; exact e⟩
      · rfl
    · rfl
theorem fill_next {sh : Shape} {fs : List Filler} {s0 : St} (h : sh.fill fs = some s0) : s0.h.next = sh.blocks.length := by
  unfold Shape.fill at h
  split at h
  · rename_i ts r1 h1
    split at h
    · rename_i bs r2 h2
      simp only [Option.some.injEq] at h; subst h
      show (hpOf bs).next = _
      rw [hpOf_next]; exact fill_len h2
    · cases h
  · cases h
/-- A function's text against what is said of it. -/
noncomputable def runO (S : Sy) (P : Program) (C : Con) (call : Caller) (n : Nat) (LS : Loops) (F : OF) (fn : Func) (c : Code) (d : FC F.ts) : Prop :=
  match F.sh.fill (FC.puts F.ts d) with
  | some s0 => lawV S P C call n LS fn c s0.tmps s0.h (odone F d)
  | none => True
structure OFOk (P : Program) (fi : FuncId) (F : OF) : Prop where
  sem : ∀ args h K, ocon F args h K → CallSem P fi args h K
theorem of_ok {P : Program} (hP : ProgOk P) {C : Con} (hC : ConOk P C) {call : Caller} (hcall : CallOk P call) (F : OF) {fi : FuncId} {fn : Func} {c : Code} (hf : P.funcs[fi]? = some fn) (hb : fn.body = some c) {n : Nat} {LS : FC F.ts → Loops}
    (hlen : F.sh.blocks.length ≤ F.obl.length) (hall : F.sh.blocks.all Option.isSome = true) (hbody : ∀ d, F.pre d → runO std P C call n (LS d) F fn c d) : OFOk P fi F :=
  ⟨fun args h K e => FSpec.ok hP hC hcall F.spec hf hb (n := n) (LS := LS) hlen hall (fun d hd s0 hs => by
    have h1 := hbody d hd
    unfold runO at h1
    rw [show F.sh.fill (FC.puts F.ts d) = some s0 from hs] at h1
    have h2 : lawV std P C call n (LS d) fn c s0.tmps s0.h (F.spec.done d) := odone_eq F d ▸ h1
    rw [← lawV_eq, fill_next hs] at h2
    exact h2) args h K (ocon_spec e)⟩
end Go.Abs
end
section
namespace Go.Abs
open Go Go.ChangeShapes Go.WideShapes Go.ChangeAt Go.RowKit

theorem trodAll_stays {H : Type} {enc : TypeId × Value → H} {P : Program} (hl : laidOutB P = true) {W W' : World} (hb : Below W.heap.size W W') {sp : Nat → Bool} : ∀ {ts : List TypeId} {vs : List Value} {ds : List (DataW H)} {ps : List MemPlace},
    (∀ t ∈ ts, P.readableRec t = true ∧ t < P.types.size) → DataW.TrodAll enc P W 0 (fun _ => true) true ts vs ds ps → (∀ p ∈ ps, p.block < W.heap.size) → (∀ p ∈ ps, sp p.block = true) → DataW.TrodAll enc P W' 0 sp true ts vs ds ps
  | [], vs, ds, ps, _, h, _, _ => by
    obtain ⟨rfl, rfl, rfl⟩ := trodAll_nil h
    rfl
  | t :: ts, vs, ds, ps, ht, h, hlt, hs => by
    obtain ⟨v, vs', d, ds', p, q, rfl, rfl, rfl, hd, hrest⟩ := trodAll_cons h
    obtain ⟨h1, h2⟩ := ht t List.mem_cons_self
    exact ⟨p, q, WideElems.Trod_stays hl h1 h2 hd (fun x hx => hb.same (hlt x (List.mem_append_left _ hx))) (fun x hx => hs x (List.mem_append_left _ hx)),
      trodAll_stays hl hb (fun t h => ht t (List.mem_cons_of_mem _ h)) hrest (fun x hx => hlt x (List.mem_append_right _ hx)) (fun x hx => hs x (List.mem_append_right _ hx)), rfl⟩
end Go.Abs
end
section
namespace Go.Abs
open Go Go.ChangeShapes Go.WideShapes Go.RowKit

/-- A raw value of a zero's kind, in the bounds of what comes in. -/
inductive RawOk : Value → Value → Prop
  | int {k : IntKind} {n m : Int} : (Lit.int k m).wf = true → RawOk (.int k n) (.int k m)
  | str {s t : ByteArray} : t.size ≤ maxLen → RawOk (.string s) (.string t)
  | bool {a b : Bool} : RawOk (.bool a) (.bool b)
  | sl {z : Value} {xs : List Value} : xs.length ≤ maxLen → (∀ x ∈ xs, RawOk z x) → RawOk (dsl z []) (dsl z xs)
  | agg {zs us : List Value} : us.length = zs.length → (∀ (i : Nat) z u, zs[i]? = some z → us[i]? = some u → RawOk z u) → RawOk (.agg zs.toArray) (.agg us.toArray)
/-- A world's cells. -/
def zW (w : World) (c i : Nat) : Option Value :=
  match w.heap[c]? with
  | some (.cells arr _ _) => arr[i]?
  | _ => none
theorem zW_ok (w : World) : ∀ c i a, zW w c i = some a → ∃ arr e fr, w.heap[c]? = some (.cells arr e fr) ∧ arr[i]? = some a := by
  intro c i a h
  unfold zW at h
  split at h
  · rename_i arr e fr hc; exact ⟨arr, e, fr, hc, h⟩
  · cases h
theorem zW_cell {w : World} {b o : Nat} {v : Value} (h : w.cell? ⟨b, o, none⟩ = some v) : zW w b o = some v := by
  unfold World.cell? at h
  unfold zW
  split at h
  case h_2 => cases h
  rename_i arr e fr hb
  have hb : w.heap[b]? = some (.cells arr e fr) := hb
  rw [hb]
  exact h
theorem cell_spot {w : World} {a : Addr} {v : Value} (h : w.cell? a = some v) : a.spot = none := by
  unfold World.cell? at h
  split at h
  case h_2 => cases h
  split at h
  · cases h
  · rename_i hs
    have hs : ¬ a.spot.isSome = true := hs
    simpa using hs
def isScalZ : Value → Bool
  | .int .. | .string _ | .bool _ => true
  | .func (.yield 1) _ _ => true
  | _ => false
/-- A raw value that is not an aggregate. -/
theorem RawOk.norm {z u : Value} (h : RawOk z u) (hz : isScalZ z = true) : norm1 z u = u ∧ cellsN z u = [u] := by
  cases h with
  | int _ => exact ⟨rfl, rfl⟩
  | str _ => exact ⟨rfl, rfl⟩
  | bool => exact ⟨rfl, rfl⟩
  | sl _ _ =>
    rename_i z xs _ _
    have : norm1 (dsl z []) (dsl z xs) = dsl z xs := by simp [norm1, dsl, dels]
    exact ⟨this, by show [norm1 (dsl z []) (dsl z xs)] = _; rw [this]⟩
  | agg _ _ => simp [isScalZ] at hz
/-- A zero: one cell, or cells of one cell each. -/
def zCells (z : Value) : Prop := isScalZ z = true ∨ ∃ zs : List Value, z = .agg zs.toArray ∧ ∀ y ∈ zs, isScalZ y = true
theorem zCells_cells {z : Value} (h : zCells z) : ∀ y ∈ z.cells.toList, isScalZ y = true := by
  rcases h with h | ⟨zs, rfl, h⟩
  · intro y hy
    cases z with
    | agg _ => simp [isScalZ] at h
    | _ => simp [Value.cells] at hy; subst hy; exact h
  · simpa [Value.cells] using h
theorem zeroL_cells {f : TypeId → Option Value} (hf : ∀ t z, f t = some z → zCells z) : ∀ {ts : List TypeId} {l : List Value}, zeroL f ts = some l → ∀ y ∈ l, isScalZ y = true
  | [], l, h, y, hy => by simp only [zeroL, Option.some.injEq] at h; subst h; simp at hy
  | t :: r, l, h, y, hy => by
    unfold zeroL at h
    split at h
    · rename_i z l' hz hl
      simp only [Option.some.injEq] at h; subst h
      rcases List.mem_append.1 hy with hy | hy
      · exact zCells_cells (hf t z hz) y hy
      · exact zeroL_cells hf hl y hy
    · cases h
theorem zeroD_cells {P : Program} : ∀ n t z, zeroD P n t = some z → zCells z
  | 0, t, z, h => by simp [zeroD] at h
  | n + 1, t, z, h => by
    have ih := zeroD_cells (P := P) n
    unfold zeroD at h
    split at h
    · simp only [Option.some.injEq] at h; subst h; exact .inl rfl
    · simp only [Option.some.injEq] at h; subst h; exact .inl rfl
    · simp only [Option.some.injEq] at h; subst h; exact .inl rfl
    · rename_i e _
      cases he : zeroD P n e with
      | none => rw [he] at h; cases h
      | some z' =>
        rw [he] at h; simp only [Option.bind_some] at h
        split at h
        · cases h
        · simp only [Option.some.injEq] at h; subst h; exact .inl rfl
    · rename_i fs _
      cases hl : zeroL (zeroD P n) (fs.toList.map (·.type)) with
      | none => rw [hl] at h; cases h
      | some l =>
        rw [hl] at h; simp only [Option.map_some, Option.some.injEq] at h; subst h
        exact .inr ⟨l, rfl, zeroL_cells ih hl⟩
    · rename_i k e _
      cases he : zeroD P n e with
      | none => rw [he] at h; cases h
      | some z' =>
        rw [he] at h; simp only [Option.map_some, Option.some.injEq] at h; subst h
        refine .inr ⟨_, rfl, fun y hy => ?_⟩
        obtain ⟨l, hl, hy⟩ := List.mem_flatten.1 hy
        rw [List.eq_of_mem_replicate hl] at hy
        exact zCells_cells (ih e z' he) y hy
    · cases h
/-- The cells of raw values side by side. -/
theorem agg_of {zs us : List Value} (hz : ∀ y ∈ zs, isScalZ y = true) (hl : us.length = zs.length) (hu : ∀ (i : Nat) z u, zs[i]? = some z → us[i]? = some u → RawOk z u) : cellsN (.agg zs.toArray) (.agg us.toArray) = us := by
  apply List.ext_getElem?
  intro i
  show (zs.zipIdx.map fun p => norm1 p.1 (fld (.agg us.toArray) p.2))[i]? = _
  rw [List.getElem?_map, List.getElem?_zipIdx]
  cases hzi : zs[i]? with
  | none =>
    have : zs.length ≤ i := List.getElem?_eq_none_iff.1 hzi
    rw [List.getElem?_eq_none (by omega)]; rfl
  | some z =>
    have hi := (List.getElem?_eq_some_iff.1 hzi).1
    have hui : us[i]? = some us[i] := List.getElem?_eq_getElem (by omega)
    rw [hui]
    have hf : fld (.agg us.toArray) i = us[i] := by simp [fld, Value.cells, Array.getD, hl, hi]
    simp only [Option.map_some, Nat.zero_add, Option.some.injEq]
    rw [hf]
    exact ((hu i z _ hzi hui).norm (hz z (List.mem_of_getElem? hzi))).1
theorem RawOk.cells {z u : Value} (h : RawOk z u) (hz : zCells z) : (cellsN z u).length = z.cells.toList.length ∧ ∀ (i : Nat) y c, z.cells.toList[i]? = some y → (cellsN z u)[i]? = some c → RawOk y c := by
  refine ⟨by rw [cellsN_len, Array.length_toList], fun i y c hy hc => ?_⟩
  rcases hz with hz | ⟨zs, rfl, hzs⟩
  · rw [(h.norm hz).2] at hc
    have hcz : z.cells.toList = [z] := by
      cases z with
      | agg _ => simp [isScalZ] at hz
      | _ => rfl
    rw [hcz] at hy
    cases i with
    | succ i => simp at hy
    | zero =>
      simp only [List.getElem?_cons_zero, Option.some.injEq] at hy hc
      subst hy; subst hc; exact h
  · generalize hg : Value.agg zs.toArray = zz at h
    cases h with
    | int _ => cases hg
    | str _ => cases hg
    | bool => cases hg
    | sl _ _ => simp [dsl] at hg
    | agg hl hu =>
      rename_i zs' us
      simp only [Value.agg.injEq] at hg
      have : zs = zs' := by simpa using congrArg Array.toList hg
      subst this
      rw [agg_of hzs hl hu] at hc
      exact hu i y c (by simpa [Value.cells] using hy) hc

section
variable {H : Type} {enc : TypeId × Value → H} {P : Program} {w : World} {base : Nat} {spare : Nat → Bool} {held : Bool}
/-- Parts side by side. -/
theorem parts_raw {n : Nat} (ih : ∀ t z, t < P.types.size → zeroD P n t = some z → ∀ {fuel : Nat} {cs : List Value} {x : DataW H × List MemPlace}, DataW.trod enc P w base spare held fuel t cs = some x → ∃ u, RawOk z u ∧ All2 (DR (zW w)) (cellsN z u) cs) :
    ∀ {ts : List TypeId} {l cs : List Value}, zeroL (zeroD P n) ts = some l → (∀ t ∈ ts, t < P.types.size) → cs.length = (ts.map P.cellsOf).sum →
      (∀ (i : Nat) t, ts[i]? = some t → ∃ fuel x, DataW.trod enc P w base spare held fuel t ((cs.drop ((ts.take i).map P.cellsOf).sum).take (P.cellsOf t)) = some x) →
      ∃ us, us.length = l.length ∧ (∀ (i : Nat) z u, l[i]? = some z → us[i]? = some u → RawOk z u) ∧ All2 (DR (zW w)) us cs
  | [], l, cs, hl, _, hc, _ => by
    simp only [zeroL, Option.some.injEq] at hl; subst hl
    have : cs = [] := List.eq_nil_of_length_eq_zero (by simpa using hc)
    subst this
    exact ⟨[], rfl, fun i z u h => by simp at h, All2.nil⟩
  | t :: ts, l, cs, hl, ht, hc, hget => by
    unfold zeroL at hl
    split at hl
    case h_2 => cases hl
    rename_i z l' hz hl'
    simp only [Option.some.injEq] at hl; subst hl
    obtain ⟨fuel, x, h0⟩ := hget 0 t rfl
    simp only [List.take_zero, List.map_nil, List.sum_nil, List.drop_zero] at h0
    obtain ⟨u, hu, hcs⟩ := ih t z (ht t List.mem_cons_self) hz h0
    simp only [List.map_cons, List.sum_cons] at hc
    obtain ⟨us, h1, h2, h3⟩ := parts_raw ih (cs := cs.drop (P.cellsOf t)) hl' (fun y hy => ht y (List.mem_cons_of_mem _ hy)) (by rw [List.length_drop]; omega) (fun i y hy => by
      obtain ⟨fuel, x, h⟩ := hget (i + 1) y (by simpa using hy)
      refine ⟨fuel, x, ?_⟩
      rw [List.drop_drop]
      simpa using h)
    obtain ⟨h4, h5⟩ := hu.cells (zeroD_cells n t z hz)
    refine ⟨cellsN z u ++ us, by rw [List.length_append, List.length_append, h4, h1], fun i y c hy hc => ?_, ?_⟩
    · rw [List.getElem?_append] at hy hc
      rw [h4] at hc
      split at hy
      · rename_i hlt; rw [if_pos hlt] at hc; exact h5 i y c hy hc
      · rename_i hlt; rw [if_neg hlt] at hc; exact h2 _ y c hy hc
    · have := hcs.append h3
      rwa [List.take_append_drop] at this
theorem zeroL_rep {f : TypeId → Option Value} {e : TypeId} {z : Value} (h : f e = some z) : ∀ k, zeroL f (List.replicate k e) = some (List.replicate k z.cells.toList).flatten
  | 0 => rfl
  | k + 1 => by
    rw [List.replicate_succ, List.replicate_succ]
    unfold zeroL
    rw [h, zeroL_rep h k]
    rfl
theorem sum_rep (P : Program) (e : TypeId) : ∀ k, ((List.replicate k e).map P.cellsOf).sum = k * P.cellsOf e
  | 0 => by simp
  | k + 1 => by rw [List.replicate_succ, List.map_cons, List.sum_cons, sum_rep P e k, Nat.succ_mul, Nat.add_comm]

theorem trod_raw (hlaid : laidOutB P = true) : ∀ n t z, t < P.types.size → zeroD P n t = some z → ∀ {fuel : Nat} {cs : List Value} {x : DataW H × List MemPlace}, DataW.trod enc P w base spare held fuel t cs = some x → ∃ u, RawOk z u ∧ All2 (DR (zW w)) (cellsN z u) cs
  | 0, t, z, _, hz, _, _, _, _ => by simp [zeroD] at hz
  | n + 1, t, z, ht, hz, fuel, cs, x, h => by
    have ih := trod_raw hlaid (n := n)
    have aggs : ∀ {l us : List Value}, (∀ y ∈ l, isScalZ y = true) → us.length = l.length → (∀ (i : Nat) z u, l[i]? = some z → us[i]? = some u → RawOk z u) → All2 (DR (zW w)) us cs → ∃ u, RawOk (.agg l.toArray) u ∧ All2 (DR (zW w)) (cellsN (.agg l.toArray) u) cs := by
      intro l us h1 h2 h3 h4
      exact ⟨.agg us.toArray, .agg h2 h3, by rw [agg_of h1 h2 h3]; exact h4⟩
    unfold zeroD at hz
    split at hz
    · rename_i k hu
      simp only [Option.some.injEq] at hz; subst hz
      obtain ⟨m, rfl, _, hw⟩ := DataW.trod_int hu h
      exact ⟨.int k m, .int hw, All2.cons (.plain rfl) All2.nil⟩
    · rename_i hu
      simp only [Option.some.injEq] at hz; subst hz
      obtain ⟨s, rfl, _, hw⟩ := DataW.trod_string hu h
      exact ⟨.string s, .str hw, All2.cons (.plain rfl) All2.nil⟩
    · rename_i hu
      simp only [Option.some.injEq] at hz; subst hz
      obtain ⟨b, rfl, _⟩ := DataW.trod_bool hu h
      exact ⟨.bool b, .bool, All2.cons (.plain rfl) All2.nil⟩
    · rename_i e hu
      cases he : zeroD P n e with
      | none => rw [he] at hz; cases hz
      | some z' =>
        rw [he] at hz; simp only [Option.bind_some] at hz
        split at hz
        · cases hz
        rename_i hpos
        simp only [Option.some.injEq] at hz; subst hz
        have slice : ∀ {xs : List Value} {v' : Value}, xs.length ≤ maxLen → (∀ y ∈ xs, RawOk z' y) → DR (zW w) (dsl z' xs) v' → ∃ u, RawOk (dsl z' []) u ∧ All2 (DR (zW w)) (cellsN (dsl z' []) u) [v'] := by
          intro xs v' h1 h2 h3
          have h4 : RawOk (dsl z' []) (dsl z' xs) := .sl h1 h2
          exact ⟨_, h4, by rw [(h4.norm rfl).2]; exact All2.cons h3 All2.nil⟩
        rcases DataW.trod_slice hu h with ⟨rfl, _⟩ | ⟨a, len, cap, elems, rest, n', _, rfl, _, hb, hlen, hcap, hel, hget, _, _⟩
        · exact slice (xs := []) (by simp) (fun y hy => by simp at hy) .nil
        · have each : ∀ i, ∃ u, i < len → RawOk z' u ∧ ∃ cs', cs'.length = P.cellsOf e ∧ (∀ j, j < P.cellsOf e → w.cell? ((a.add (i * P.cellsOf e)).add j) = cs'[j]?) ∧ All2 (DR (zW w)) (cellsN z' u) cs' := by
            intro i
            by_cases hi : i < len
            · have hg := hget i hi
              rw [List.getElem?_eq_getElem (by omega), Option.bind_eq_some_iff] at hg
              obtain ⟨cs', hcs, htr⟩ := hg
              obtain ⟨u, hu1, hu2⟩ := ih e z' (kid_slice hlaid ht hu) he htr
              obtain ⟨_, h2, h3⟩ := World.cells?_some hcs
              exact ⟨u, fun _ => ⟨hu1, cs', h2, h3, hu2⟩⟩
            · exact ⟨.bool false, fun h => absurd h hi⟩
          obtain ⟨U, hU⟩ := Classical.axiomOfChoice each
          have hmem : ∀ y ∈ (List.range len).map U, RawOk z' y := by
            intro y hy
            obtain ⟨i, hi, rfl⟩ := List.mem_map.1 hy
            exact (hU i (List.mem_range.1 hi)).1
          refine slice (xs := (List.range len).map U) (by rw [List.length_map, List.length_range]; omega) hmem ?_
          rcases Nat.eq_zero_or_pos len with h0 | h0
          · subst h0; exact .nil
          · obtain ⟨_, cs0, hc1, hc2, hc3⟩ := hU 0 h0
            have hsz : z'.cells.size = P.cellsOf e := by rw [← hc1, ← hc3.1, cellsN_len]
            have hp : 0 < P.cellsOf e := by omega
            have hspot : a.spot = none := by
              have := hc2 0 hp
              rw [Nat.zero_mul, show (a.add 0).add 0 = a from rfl, List.getElem?_eq_getElem (by omega)] at this
              exact cell_spot this
            obtain ⟨ab, ao, asp⟩ := a
            simp only at hspot; subst hspot
            have hadd : ∀ m k, ((⟨ab, ao, none⟩ : Addr).add m).add k = ⟨ab, ao + (m + k), none⟩ := by
              intro m k
              unfold Addr.add
              split
              · split
                · simp_all
                · simp_all
              · split
                · simp_all
                · simp only [Addr.mk.injEq, and_true, true_and]; omega
            have key : ∀ p v, (flatN z' ((List.range len).map U))[p]? = some v → ∃ y, zW w ab (ao + p) = some y ∧ DR (zW w) v y := by
              intro p v hv
              have hlt := (List.getElem?_eq_some_iff.1 hv).1
              rw [flatN_len, List.length_map, List.length_range, hsz] at hlt
              have hq : p / P.cellsOf e < len := (Nat.div_lt_iff_lt_mul hp).2 hlt
              have hr := Nat.mod_lt p hp
              have hpq : p / P.cellsOf e * P.cellsOf e + p % P.cellsOf e = p := by
                have := Nat.div_add_mod p (P.cellsOf e)
                rw [Nat.mul_comm] at this; exact this
              have hfl := flatN_get (z := z') (xs := (List.range len).map U) (i := p / P.cellsOf e) (j := p % P.cellsOf e) (by simpa using hq) (by omega)
              rw [hsz, hpq, hv] at hfl
              have hgd : ((List.range len).map U).getD (p / P.cellsOf e) z' = U (p / P.cellsOf e) := by
                rw [List.getD_eq_getElem?_getD, List.getElem?_map, List.getElem?_range hq]; rfl
              rw [hgd] at hfl
              obtain ⟨_, cs', h1, h2, h3⟩ := hU _ hq
              obtain ⟨y, hy, hdr⟩ := h3.2 _ v hfl.symm
              have h4 := h2 _ hr
              rw [hy, hadd, hpq] at h4
              exact ⟨y, zW_cell h4, hdr⟩
            refine .sl (fun j => (zW w ab (ao + j)).getD (.bool false)) (by simp) hlen (fun p v hv => ?_) (fun p v hv => ?_)
            · obtain ⟨y, hy, _⟩ := key p v hv
              rw [hy]; rfl
            · obtain ⟨y, hy, hd⟩ := key p v hv
              simp only [hy, Option.getD_some]; exact hd
    · rename_i fs hu
      cases hl : zeroL (zeroD P n) (fs.toList.map (·.type)) with
      | none => rw [hl] at hz; cases hz
      | some l =>
        rw [hl] at hz; simp only [Option.map_some, Option.some.injEq] at hz; subst hz
        obtain ⟨xs, n', _, _, hlenc, hlen, hget⟩ := DataW.trod_struct hu h
        obtain ⟨k1, k2, k3⟩ := kid_struct hlaid ht hu
        obtain ⟨us, h1, h2, h3⟩ := parts_raw ih (cs := cs) hl (fun y hy => by
          obtain ⟨f, hf, rfl⟩ := List.mem_map.1 hy
          exact k1 f hf) (by rw [hlenc, k2, List.map_map]; rfl) (fun i y hy => by
          rw [List.getElem?_map] at hy
          cases hfi : fs.toList[i]? with
          | none => rw [hfi] at hy; cases hy
          | some f =>
            rw [hfi] at hy
            simp only [Option.map_some, Option.some.injEq] at hy; subst hy
            have hg := hget i f (by rw [← Array.getElem?_toList]; exact hfi)
            have hlt := (List.getElem?_eq_some_iff.1 hfi).1
            rw [List.getElem?_eq_getElem (by simpa [hlen] using hlt), k3 i f hfi] at hg
            refine ⟨n', xs[i]'(by simpa [hlen] using hlt), ?_⟩
            rw [← List.map_take, List.map_map]
            exact hg)
        exact aggs (zeroL_cells (fun t z h => zeroD_cells n t z h) hl) h1 h2 h3
    · rename_i k e hu
      cases he : zeroD P n e with
      | none => rw [he] at hz; cases hz
      | some z' =>
        rw [he] at hz; simp only [Option.map_some, Option.some.injEq] at hz; subst hz
        obtain ⟨xs, n', _, _, hlenc, hlen, hget⟩ := DataW.trod_array hu h
        obtain ⟨k1, k2⟩ := kid_array hlaid ht hu
        have hl := zeroL_rep he k
        obtain ⟨us, h1, h2, h3⟩ := parts_raw ih (cs := cs) hl (fun y hy => by rw [List.eq_of_mem_replicate hy]; exact k1) (by rw [hlenc, k2, sum_rep]) (fun i y hy => by
          rw [List.getElem?_replicate] at hy
          split at hy
          · rename_i hi
            simp only [Option.some.injEq] at hy; subst hy
            have hg := hget i hi
            rw [List.getElem?_eq_getElem (by omega)] at hg
            refine ⟨n', xs[i]'(by omega), ?_⟩
            rw [List.take_replicate, sum_rep, Nat.min_eq_left (by omega)]
            exact hg
          · cases hy)
        exact aggs (zeroL_cells (fun t z h => zeroD_cells n t z h) hl) h1 h2 h3
    · cases hz
/-- An argument of one cell. -/
theorem arg_one (hlaid : laidOutB P = true) {n : Nat} {t : TypeId} {z v : Value} {d : DataW H} {ps : List MemPlace} (ht : t < P.types.size) (hz : zeroD P n t = some z) (hs : isScalZ z = true) (hv : v.cells = #[v])
    (hd : DataW.Trod enc P w base spare held t v d ps) : ∃ u, RawOk z u ∧ DRa (zW w) u v := by
  obtain ⟨fuel, hf⟩ := hd
  obtain ⟨u, hu, hc⟩ := trod_raw hlaid n t z ht hz hf
  rw [(hu.norm hs).2, hv] at hc
  obtain ⟨v', l, e, r, _⟩ := hc.inv_cons
  simp only [List.cons.injEq] at e
  rw [← e.1] at r
  refine ⟨u, hu, .inl ⟨?_, r⟩⟩
  cases hu with
  | agg _ _ => simp [isScalZ] at hs
  | _ => rfl
theorem arg_slice (hlaid : laidOutB P = true) {n : Nat} {t e : TypeId} {z v : Value} {b0 : Nat} {r : Reach} {d : DataW H} {ps : List MemPlace} (ht : t < P.types.size) (hu : P.underlying t = some (.slice e)) (hz : zeroD P n t = some (dsl z [])) (hval : Value.okWide P w r b0 t v)
    (hd : DataW.Trod enc P w base spare held t v d ps) : ∃ xs, xs.length ≤ maxLen ∧ (∀ x ∈ xs, RawOk z x) ∧ DRa (zW w) (dsl z xs) v := by
  obtain ⟨a, len, cap, rfl⟩ := okWide_slice hu hval
  obtain ⟨u, h1, h2⟩ := arg_one hlaid ht hz rfl rfl hd
  generalize hg : dsl z [] = y at h1
  cases h1 with
  | int _ => simp [dsl] at hg
  | str _ => simp [dsl] at hg
  | bool => simp [dsl] at hg
  | agg _ _ => simp [dsl] at hg
  | sl h3 h4 =>
    simp [dsl] at hg
    subst hg
    exact ⟨_, h3, h4, h2⟩
end
/-- A LAW of immutable data. -/
theorem law_pf {P : Program} (hP : ProgOk P) {F : PF} {f : FuncId} {fn : Func} {c : Code} (hf : P.funcs[f]? = some fn) (hb : fn.body = some c) (hF : PFOk P f F) (hnf : F.fresh = false) {d : F.D} (hpre : F.pre d) (hres : F.res d = [.bool true]) {xs : List Value}
    (hraw : rawVs deep0 F.zs (F.args d) = some xs) {w : World} {args' : Array Value} (hl : All2 (DRa (zW w)) xs args'.toList) : Calls P f args' w fun en w' => RowKit.Below w.heap.size w w' ∧ en = .returned (.bool true) := by
  have hn := hP.name hf
  have henter : (callFunc f args').run P w = .ok (.enter f args') w := by simp [callFunc, hf, hn, hb]
  rcases hF.out (base := w.heap.size) (Nat.le_refl _) (zW_ok w) hpre hraw hl with ⟨v', w', h1, _⟩ | ⟨_, h2⟩
  · rw [henter] at h1; cases h1
  · refine h2.mono fun en w' ⟨v', he, z2, tk, ho⟩ => ⟨ho.below, ?_⟩
    have htk : tk = none := by
      cases e : tk with
      | none => rfl
      | some p => have := (ho.tok p e).1; rw [hnf] at this; cases this
    have hv := ho.val (μ := ⟨fun _ => none, z2⟩) (b := 0) rfl (by rw [htk])
    rw [hnf, hres] at hv
    have hv : VR _ (.bool true) v' := hv
    rw [he, hv.inv_bool]
end Go.Abs
end
section
namespace Go.Abs
open Go Go.ChangeShapes Go.WideShapes Go.RowKit

section
variable {H : Type} {enc : TypeId × Value → H} {P : Program} {w : World} {base : Nat} {spare : Nat → Bool} {held : Bool}
theorem trodAll_one' {t0 : TypeId} {args : Array Value} {ds : List (DataW H)} {ps : List MemPlace} (h : DataW.TrodAll enc P w base spare held [t0] args.toList ds ps) :
    ∃ v0 d0 p0, args = #[v0] ∧ ds = [d0] ∧ ps = p0 ++ [] ∧ DataW.Trod enc P w base spare held t0 v0 d0 p0 := by
  obtain ⟨v0, r0, d0, s0, p0, q0, e0, rfl, rfl, g0, k0⟩ := trodAll_cons h
  obtain ⟨rfl, rfl, rfl⟩ := trodAll_nil k0
  exact ⟨v0, d0, p0, Array.toList_inj.1 e0, rfl, rfl, g0⟩
theorem trodAll_two' {t0 t1 : TypeId} {args : Array Value} {ds : List (DataW H)} {ps : List MemPlace} (h : DataW.TrodAll enc P w base spare held [t0, t1] args.toList ds ps) :
    ∃ v0 v1 d0 d1 p0 p1, args = #[v0, v1] ∧ ds = [d0, d1] ∧ ps = p0 ++ p1 ++ [] ∧ DataW.Trod enc P w base spare held t0 v0 d0 p0 ∧ DataW.Trod enc P w base spare held t1 v1 d1 p1 := by
  obtain ⟨v0, r0, d0, s0, p0, q0, e0, rfl, rfl, g0, k0⟩ := trodAll_cons h
  obtain ⟨v1, r1, d1, s1, p1, q1, rfl, rfl, rfl, g1, k1⟩ := trodAll_cons k0
  obtain ⟨rfl, rfl, rfl⟩ := trodAll_nil k1
  exact ⟨v0, v1, d0, d1, p0, p1, Array.toList_inj.1 e0, rfl, by simp only [List.append_assoc], g0, g1⟩
theorem trodAll_three' {t0 t1 t2 : TypeId} {args : Array Value} {ds : List (DataW H)} {ps : List MemPlace} (h : DataW.TrodAll enc P w base spare held [t0, t1, t2] args.toList ds ps) :
    ∃ v0 v1 v2 d0 d1 d2 p0 p1 p2, args = #[v0, v1, v2] ∧ ds = [d0, d1, d2] ∧ ps = p0 ++ p1 ++ p2 ++ [] ∧ DataW.Trod enc P w base spare held t0 v0 d0 p0 ∧ DataW.Trod enc P w base spare held t1 v1 d1 p1 ∧ DataW.Trod enc P w base spare held t2 v2 d2 p2 := by
  obtain ⟨v0, r0, d0, s0, p0, q0, e0, rfl, rfl, g0, k0⟩ := trodAll_cons h
  obtain ⟨v1, r1, d1, s1, p1, q1, rfl, rfl, rfl, g1, k1⟩ := trodAll_cons k0
  obtain ⟨v2, r2, d2, s2, p2, q2, rfl, rfl, rfl, g2, k2⟩ := trodAll_cons k1
  obtain ⟨rfl, rfl, rfl⟩ := trodAll_nil k2
  exact ⟨v0, v1, v2, d0, d1, d2, p0, p1, p2, Array.toList_inj.1 e0, rfl, by simp only [List.append_assoc], g0, g1, g2⟩
theorem trodAll_four' {t0 t1 t2 t3 : TypeId} {args : Array Value} {ds : List (DataW H)} {ps : List MemPlace} (h : DataW.TrodAll enc P w base spare held [t0, t1, t2, t3] args.toList ds ps) :
    ∃ v0 v1 v2 v3 d0 d1 d2 d3 p0 p1 p2 p3, args = #[v0, v1, v2, v3] ∧ ds = [d0, d1, d2, d3] ∧ ps = p0 ++ p1 ++ p2 ++ p3 ++ [] ∧ DataW.Trod enc P w base spare held t0 v0 d0 p0 ∧ DataW.Trod enc P w base spare held t1 v1 d1 p1 ∧ DataW.Trod enc P w base spare held t2 v2 d2 p2 ∧ DataW.Trod enc P w base spare held t3 v3 d3 p3 := by
  obtain ⟨v0, r0, d0, s0, p0, q0, e0, rfl, rfl, g0, k0⟩ := trodAll_cons h
  obtain ⟨v1, r1, d1, s1, p1, q1, rfl, rfl, rfl, g1, k1⟩ := trodAll_cons k0
  obtain ⟨v2, r2, d2, s2, p2, q2, rfl, rfl, rfl, g2, k2⟩ := trodAll_cons k1
  obtain ⟨v3, r3, d3, s3, p3, q3, rfl, rfl, rfl, g3, k3⟩ := trodAll_cons k2
  obtain ⟨rfl, rfl, rfl⟩ := trodAll_nil k3
  exact ⟨v0, v1, v2, v3, d0, d1, d2, d3, p0, p1, p2, p3, Array.toList_inj.1 e0, rfl, by simp only [List.append_assoc], g0, g1, g2, g3⟩
theorem trodAll_five' {t0 t1 t2 t3 t4 : TypeId} {args : Array Value} {ds : List (DataW H)} {ps : List MemPlace} (h : DataW.TrodAll enc P w base spare held [t0, t1, t2, t3, t4] args.toList ds ps) :
    ∃ v0 v1 v2 v3 v4 d0 d1 d2 d3 d4 p0 p1 p2 p3 p4, args = #[v0, v1, v2, v3, v4] ∧ ds = [d0, d1, d2, d3, d4] ∧ ps = p0 ++ p1 ++ p2 ++ p3 ++ p4 ++ [] ∧ DataW.Trod enc P w base spare held t0 v0 d0 p0 ∧ DataW.Trod enc P w base spare held t1 v1 d1 p1 ∧ DataW.Trod enc P w base spare held t2 v2 d2 p2 ∧ DataW.Trod enc P w base spare held t3 v3 d3 p3 ∧ DataW.Trod enc P w base spare held t4 v4 d4 p4 := by
  obtain ⟨v0, r0, d0, s0, p0, q0, e0, rfl, rfl, g0, k0⟩ := trodAll_cons h
  obtain ⟨v1, r1, d1, s1, p1, q1, rfl, rfl, rfl, g1, k1⟩ := trodAll_cons k0
  obtain ⟨v2, r2, d2, s2, p2, q2, rfl, rfl, rfl, g2, k2⟩ := trodAll_cons k1
  obtain ⟨v3, r3, d3, s3, p3, q3, rfl, rfl, rfl, g3, k3⟩ := trodAll_cons k2
  obtain ⟨v4, r4, d4, s4, p4, q4, rfl, rfl, rfl, g4, k4⟩ := trodAll_cons k3
  obtain ⟨rfl, rfl, rfl⟩ := trodAll_nil k4
  exact ⟨v0, v1, v2, v3, v4, d0, d1, d2, d3, d4, p0, p1, p2, p3, p4, Array.toList_inj.1 e0, rfl, by simp only [List.append_assoc], g0, g1, g2, g3, g4⟩
theorem trodAll_six' {t0 t1 t2 t3 t4 t5 : TypeId} {args : Array Value} {ds : List (DataW H)} {ps : List MemPlace} (h : DataW.TrodAll enc P w base spare held [t0, t1, t2, t3, t4, t5] args.toList ds ps) :
    ∃ v0 v1 v2 v3 v4 v5 d0 d1 d2 d3 d4 d5 p0 p1 p2 p3 p4 p5, args = #[v0, v1, v2, v3, v4, v5] ∧ ds = [d0, d1, d2, d3, d4, d5] ∧ ps = p0 ++ p1 ++ p2 ++ p3 ++ p4 ++ p5 ++ [] ∧ DataW.Trod enc P w base spare held t0 v0 d0 p0 ∧ DataW.Trod enc P w base spare held t1 v1 d1 p1 ∧ DataW.Trod enc P w base spare held t2 v2 d2 p2 ∧ DataW.Trod enc P w base spare held t3 v3 d3 p3 ∧ DataW.Trod enc P w base spare held t4 v4 d4 p4 ∧ DataW.Trod enc P w base spare held t5 v5 d5 p5 := by
  obtain ⟨v0, r0, d0, s0, p0, q0, e0, rfl, rfl, g0, k0⟩ := trodAll_cons h
  obtain ⟨v1, r1, d1, s1, p1, q1, rfl, rfl, rfl, g1, k1⟩ := trodAll_cons k0
  obtain ⟨v2, r2, d2, s2, p2, q2, rfl, rfl, rfl, g2, k2⟩ := trodAll_cons k1
  obtain ⟨v3, r3, d3, s3, p3, q3, rfl, rfl, rfl, g3, k3⟩ := trodAll_cons k2
  obtain ⟨v4, r4, d4, s4, p4, q4, rfl, rfl, rfl, g4, k4⟩ := trodAll_cons k3
  obtain ⟨v5, r5, d5, s5, p5, q5, rfl, rfl, rfl, g5, k5⟩ := trodAll_cons k4
  obtain ⟨rfl, rfl, rfl⟩ := trodAll_nil k5
  exact ⟨v0, v1, v2, v3, v4, v5, d0, d1, d2, d3, d4, d5, p0, p1, p2, p3, p4, p5, Array.toList_inj.1 e0, rfl, by simp only [List.append_assoc], g0, g1, g2, g3, g4, g5⟩
end
/-- A slice that came in. -/
def SlIn (w : World) (z v : Value) : Prop := ∃ xs, xs.length ≤ maxLen ∧ (∀ x ∈ xs, RawOk z x) ∧ DRa (zW w) (dsl z xs) v
/-- Numbers that came in. -/
theorem ints_ok {k : IntKind} {n : Int} {xs : List Value} (h : ∀ x ∈ xs, RawOk (.int k n) x) : ∀ (i : Nat) d, i < xs.length → ∃ m, xs.getD i d = .int k m ∧ (Lit.int k m).wf = true := by
  intro i d hi
  rw [List.getD_eq_getElem?_getD, List.getElem?_eq_getElem hi]
  have := h _ (List.getElem_mem hi)
  generalize xs[i] = u at this
  cases this with
  | int hw => exact ⟨_, rfl, hw⟩
end Go.Abs
end
section
namespace Go.Abs
open Go

/-- Places below a number. -/
def ltb (n : Nat) : Value → Bool
  | .pointer (some a) => decide (a.block < n)
  | .slice (some a) _ _ => decide (a.block < n)
  | .map (some b) => decide (b < n)
  | .func (.yield 5) f _ => match f.toList with
    | [_, .slice none b _] => decide (b < n)
    | _ => false
  | .func (.yield 4) f _ => match f.toList with
    | [.pointer (some a)] => decide (a.block < n)
    | _ => false
  | .func (.yield 2) _ _ => false
  | _ => true
noncomputable def lt0 (n : Nat) (v : Value) : Bool := ltb n (den v)
noncomputable def lt1 (n : Nat) (v : Value) : Bool := match v with
  | .func f a b => lt0 n v && (isYield f || (a.toList.all (lt0 n) && b.toList.all (lt0 n)))
  | .iface _ v => lt0 n v
  | v => lt0 n v
noncomputable def ltV (n : Nat) (v : Value) : Bool := match v with
  | .agg cs => cs.toList.all (lt1 n)
  | .tuple _ => false
  | v => lt1 n v
noncomputable def ltBlk (n : Nat) : Blk → Bool
  | .cells cs _ => cs.all (lt1 n)
  | .row (.vals _ _) _ => false
  | .row _ _ => true
  | .map _ _ => false
  | .smap .. => true
noncomputable def Tr.allB (p : Blk → Bool) : Tr → Bool
  | .leaf => true
  | .node l v r => l.allB p && (match v with | some x => p x | none => true) && r.allB p
noncomputable def wfH (h : Hp) : Bool := h.tab.allB (ltBlk h.next)
theorem Tr.allB_get {p : Blk → Bool} : ∀ {t : Tr} {i : Nat} {x : Blk}, t.allB p = true → t.get i = some x → p x = true
  | .leaf, i, x, _, e => by cases e
  | .node l v r, i, x, h, e => by
    unfold Tr.allB at h
    simp only [Bool.and_eq_true] at h
    rw [Tr.get_eq] at e
    split at e
    · have e : v = some x := e
      subst e
      exact h.1.2
    · split at e
      · exact Tr.allB_get h.1.1 e
      · exact Tr.allB_get h.2 e
theorem wfH_get {h : Hp} (hw : wfH h = true) {b : Nat} {x : Blk} (e : h.get b = some x) : ltBlk h.next x = true := by
  unfold Hp.get at e
  split at e
  · exact Tr.allB_get hw e
  · cases e

def cut (μ : Mu) (n : Nat) : Mu := ⟨fun b => if b < n then μ b else none, μ.z⟩
theorem cut_le (μ : Mu) (n : Nat) : Mu.le (cut μ n) μ := by
  refine ⟨fun b p h => ?_, fun _ _ _ h => h⟩
  have h : (if b < n then μ b else none) = some p := h
  split at h
  · exact h
  · cases h
theorem cut_lt {μ : Mu} {n b : Nat} (h : b < n) : cut μ n b = μ b := if_pos h
section
variable {μ : Mu} {n : Nat}
theorem VR0.cut {v v' : Value} (h : VR0 μ v v') (hl : lt0 n v = true) : VR0 (cut μ n) v v' := by
  induction h with
  | plain hp => exact .plain hp
  | ptr hp => exact .ptr (by rw [cut_lt (of_decide_eq_true hl)]; exact hp)
  | slice hp h1 h2 => exact .slice (by rw [cut_lt (of_decide_eq_true hl)]; exact hp) h1 h2
  | slice0 hp h1 => exact .slice0 (by rw [cut_lt (of_decide_eq_true hl)]; exact hp) h1
  | map hp => exact .map (by rw [cut_lt (of_decide_eq_true hl)]; exact hp)
  | tok ht => exact .tok ht
  | deep hd => exact .deep hd
  | osl hd h1 h2 =>
    rename_i z xs b q n0 k a
    have hb : b < n := of_decide_eq_true hl
    refine .osl hd h1 ?_
    rcases h2 with h2 | ⟨h2, p, c, o, h3, h4, h5⟩
    · exact .inl h2
    · exact .inr ⟨h2, p, c, o, h3, by rw [cut_lt hb]; exact h4, h5⟩
  | fptr val h1 h2 ih => exact absurd (show false = true from hl) Bool.false_ne_true
  | rptr hp =>
    rename_i b e i j p
    have hb : b < n := of_decide_eq_true hl
    exact .rptr (by rw [cut_lt hb]; exact hp)
  | mbool => exact .mbool
  | mark r hm ih =>
    refine .mark (ih ?_) hm
    unfold lt0 at hl ⊢
    rw [den_mk hm] at hl
    rename_i w w'
    have : Abs.den w = w := by cases w <;> first | (simp [markable] at hm; done) | rfl
    rw [this]; exact hl
theorem all_cut {R R' : Value → Value → Prop} {p : Value → Bool} (hk : ∀ v v', R v v' → p v = true → R' v v') {l l' : List Value} (h : All2 R l l') (hp : l.all p = true) : All2 R' l l' := by
  refine ⟨h.1, fun i a ha => ?_⟩
  obtain ⟨b, hb, r⟩ := h.2 i a ha
  exact ⟨b, hb, hk a b r (List.all_eq_true.1 hp a (List.mem_of_getElem? ha))⟩
theorem lt1_lt0 {v : Value} (h : lt1 n v = true) (hi : ∀ t u, v ≠ .iface t u) : lt0 n v = true := by
  unfold lt1 at h
  split at h
  · simp only [Bool.and_eq_true] at h; exact h.1
  · exact absurd rfl (hi _ _)
  · exact h
theorem VR1.cut {v v' : Value} (h : VR1 μ v v') (hl : lt1 n v = true) : VR1 (cut μ n) v v' := by
  cases h with
  | zero r =>
    by_cases hi : ∃ t u, v = .iface t u
    · obtain ⟨t, u, rfl⟩ := hi
      cases r with
      | plain hp => exact .zero (.plain hp)
    · exact .zero (r.cut (lt1_lt0 hl fun t u e => hi ⟨t, u, e⟩))
  | func hf ha hb =>
    unfold lt1 at hl
    simp only [hf, Bool.false_or, Bool.and_eq_true] at hl
    exact .func hf (all_cut (fun _ _ r h => r.cut h) ha hl.2.1) (all_cut (fun _ _ r h => r.cut h) hb hl.2.2)
  | iface r => exact .iface (r.cut hl)
theorem VR.cut {v v' : Value} (h : VR μ v v') (hl : ltV n v = true) : VR (cut μ n) v v' := by
  cases h with
  | dead => exact .dead
  | tup hv => simp [ltV] at hl
  | a r =>
    cases r with
    | agg hv => exact .a (.agg (all_cut (fun _ _ r h => r.cut h) hv hl))
    | one r =>
      refine .a (.one ?_)
      by_cases hi : ∃ cs, v = .agg cs
      · obtain ⟨cs, rfl⟩ := hi
        cases r with
        | zero r => cases r with
          | plain hp => exact .zero (.plain hp)
      · refine r.cut ?_
        unfold ltV at hl
        split at hl
        · exact absurd ⟨_, rfl⟩ hi
        · cases hl
        · exact hl
theorem BR.cut {base : Nat} {w : World} {p : Pl} {x : Blk} (h : BR μ base w p x) (hl : ltBlk n x = true) : BR (cut μ n) base w p x := by
  cases x with
  | cells cs ro =>
    obtain ⟨arr, e, fr, h1, h2, h3, h4⟩ := h
    refine ⟨arr, e, fr, h1, h2, fun i v hv => ?_, h4⟩
    obtain ⟨v', h5, h6⟩ := h3 i v hv
    exact ⟨v', h5, h6.cut (List.all_eq_true.1 hl v (List.mem_of_getElem? hv))⟩
  | row r ro =>
    obtain ⟨arr, e, fr, h1, h2, h3, h4⟩ := h
    refine ⟨arr, e, fr, h1, h2, fun i v hv => ?_, h4⟩
    obtain ⟨v', h5, h6⟩ := h3 i v hv
    have hp : plain1 v = true := by
      have := List.mem_of_getElem? hv
      cases r with
      | ints k xs => obtain ⟨x, _, rfl⟩ := List.mem_map.1 this; rfl
      | bools xs => obtain ⟨x, _, rfl⟩ := List.mem_map.1 this; rfl
      | strs xs => obtain ⟨x, _, rfl⟩ := List.mem_map.1 this; rfl
      | pairs xs =>
        obtain ⟨x, _, hx⟩ := List.mem_flatMap.1 this
        rcases List.mem_cons.1 hx with rfl | hx
        · rfl
        · rw [List.mem_singleton.1 hx]; rfl
      | vals z xs => cases hl
    rw [vr_plain_eq (.a (.one h6)) hp] at h5
    exact ⟨v, h5, .zero (.plain hp)⟩
  | map es ck => cases hl
  | smap kz vz es => exact h
end

/-- What just is left. -/
theorem funSem_of {P : Program} {f : FuncId} {args : List Value} {h h1 : Hp} {v1 : Value} {K : Value → Hp → Prop} (hwf : wfH h = true) (hwa : args.all (ltV h.next) = true) (hn : h.next ≤ h1.next)
    (hown : ∀ b x, b < h.next → h1.get b = some x → ∃ x0, h.get b = some x0 ∧ ownB x0 = ownB x) (hnew : ∀ b x, h.next ≤ b → h1.get b = some x → ownB x = true)
    (hkeep : ∀ {μ : Mu} {base : Nat} {w : World} {args' : Array Value}, All2 (VR μ) args args'.toList → Rel μ base h.get w → Keeps μ h h1)
    (hc : CallSem P f args h fun v h' => v = v1 ∧ h' = h1) (hK : K v1 h1) : FunSem P f args h K := by
  refine ⟨v1, h1, hK, hn, fun {μ base w args'} hl hrel hfr => ?_⟩
  have hl0 : All2 (VR (cut μ h.next)) args args'.toList := all_cut (fun _ _ r h => r.cut h) hl hwa
  have hrel0 : Rel (cut μ h.next) base h.get w := by
    refine ⟨hrel.size, fun b p x hb hx => (hrel.blk b p x ((cut_le _ _).f b p hb) hx).cut (wfH_get hwf hx), fun b b' p p' x x' h1 h2 h3 h4 h5 h6 => ?_, fun c i a hc => ?_⟩
    · exact hrel.inj b b' p p' x x' ((cut_le _ _).f b p h1) ((cut_le _ _).f b' p' h2) h3 h4 h5 h6
    · exact ⟨(hrel.frz c i a hc).1, fun b p x h1 => (hrel.frz c i a hc).2 b p x ((cut_le _ _).f b p h1)⟩
  have hfree : ∀ b, h.next ≤ b → cut μ h.next b = none := fun b hb => if_neg (by omega)
  have conv : ∀ {v' : Value} {w' : World}, (∃ v h' μ', (v = v1 ∧ h' = h1) ∧ COut (cut μ h.next) base h w v h' v' w' μ') → ∃ μ', Out μ base h w v1 h1 v' w' μ' := by
    rintro v' w' ⟨v, h', μ', ⟨rfl, rfl⟩, hq⟩
    have old : ∀ b, b < h.next → μ' b = μ b := fun b hb => by rw [hq.prot b hb, cut_lt hb]
    have hle : Mu.le μ' ⟨fun b => if b < h'.next then μ' b else μ b, μ'.z⟩ := by
      refine ⟨fun b p hb => ?_, fun _ _ _ h => h⟩
      show (if b < h'.next then μ' b else μ b) = some p
      by_cases e : b < h'.next
      · rw [if_pos e]; exact hb
      · rw [hq.free b (by omega)] at hb; cases hb
    have at' : ∀ {b p x}, h'.get b = some x → (if b < h'.next then μ' b else μ b) = some p → μ' b = some p := by
      intro b p x hx hb
      rw [if_pos (Hp.lt_of_get hx)] at hb
      exact hb
    refine ⟨⟨fun b => if b < h'.next then μ' b else μ b, μ'.z⟩, hq.val.mono hle, ⟨⟨fun b p hb => ?_, hq.zle⟩, ⟨hq.rel.size, fun b p x hb hx => ?_, fun b b' p p' x x' k1 k2 k3 k4 k5 k6 => ?_, fun c i a hc => ?_⟩, ⟨hq.fr.os, hq.fr.tape, hq.fr.output, hq.fr.size, fun c hcl hno => ?_⟩, fun b p x hb hx => ?_, fun c i a hc => ?_⟩, hn, fun b hb => ?_, hkeep hl hrel⟩
    · show (if b < h'.next then μ' b else μ b) = some p
      by_cases e : b < h'.next
      · rw [if_pos e]
        by_cases e2 : b < h.next
        · rw [old b e2]; exact hb
        · rw [hfr b (by omega) e] at hb; cases hb
      · rw [if_neg e]; exact hb
    · exact (hq.rel.blk b p x (at' hx hb) hx).keep hle rfl
    · exact hq.rel.inj b b' p p' x x' (at' k3 k1) (at' k4 k2) k3 k4 k5 k6
    · exact ⟨(hq.rel.frz c i a hc).1, fun b p x hb hx => (hq.rel.frz c i a hc).2 b p x (at' hx hb) hx⟩
    · refine hq.fr.block c hcl fun b p x k1 k2 k3 => hno b p x ((cut_le _ _).f b p k1) k2 k3
    · by_cases e : b < h.next
      · obtain ⟨x0, hx0, ho⟩ := hown b x e hx
        exact .inr ⟨b, p, x0, by rw [← old b e]; exact at' hx hb, hx0, fun h => by rw [ho]; exact h, rfl⟩
      · have ho := hnew b x (by omega) hx
        rcases hq.own b p x (at' hx hb) hx with h5 | ⟨b0, p0, x0, h5, h6, h7, h8⟩
        · exact .inl h5
        · exact .inr ⟨b0, p0, x0, (cut_le _ _).f b0 p0 h5, h6, h7, h8⟩
    · rcases hq.fz c i a hc with h5 | h5 | ⟨b0, p0, x0, h5, h6, h7, h8⟩
      · exact .inl h5
      · exact .inr (.inl h5)
      · exact .inr (.inr ⟨b0, p0, x0, (cut_le _ _).f b0 p0 h5, h6, h7, h8⟩)
    · have hb : (if b < h'.next then μ' b else μ b) ≠ μ b := hb
      by_cases e : b < h'.next
      · rw [if_pos e] at hb
        refine ⟨?_, e⟩
        rcases Nat.lt_or_ge b h.next with e2 | e2
        · exact absurd (old b e2) hb
        · exact e2
      · rw [if_neg e] at hb; exact absurd rfl hb
  rcases hc hl0 hrel0 hfree with ⟨v', w', h2, h3⟩ | ⟨h2, h3⟩
  · exact .inl ⟨v', w', h2, conv h3⟩
  · refine .inr ⟨h2, h3.mono ?_⟩
    rintro en w' ⟨v', rfl, h4⟩
    exact ⟨v', rfl, conv h4⟩

def isPtrTo (b : Nat) : Value → Bool
  | .pointer (some a) => a.block == b && a.spot.isNone
  | _ => false
def isRefTo (b : Nat) : Value → Bool
  | .pointer (some a) => a.block == b && a.spot.isNone
  | .map (some c) => c == b
  | _ => false
/-- A block that an argument points to, or that stands in a cell of such a one. -/
noncomputable def reachB (args : List Value) (h : Hp) (b : Nat) : Bool := args.any fun a => isPtrTo b a || (match a with
  | .pointer (some ad) => ad.spot.isNone && (match h.get ad.block with
    | some (.cells cs _) => cs.any (isRefTo b)
    | _ => false)
  | _ => false)
noncomputable def leaveOk (args : List Value) (h : Hp) : Rho → List Bool → List (Option Blk) → Bool
  | [], [], xs => xs.all fun x => match x with | some y => ownB y | none => true
  | b :: ρ, k :: ks, x :: xs => (match x with
    | some y => (match h.get b with | some x0 => ownB x0 == ownB y | none => false) && reachB args h b
    | none => k) && leaveOk args h ρ ks xs
  | _, _, _ => false
/-- A function of objects inside a region of open order. -/
noncomputable def ocd (F : OF) (args : List Value) (h : Hp) (K : Value → Hp → Prop) : Prop :=
  match F.sh.matD (deepV h (fun _ => false) 6) true (F.sh.find 0 ⟨args, h⟩) ⟨args, h⟩ with
  | some fs => if nodupB (F.sh.find 0 ⟨args, h⟩) && ((F.sh.find 0 ⟨args, h⟩).all fun b => decide (b < h.next)) && wfH h && args.all (ltV h.next) then
      match FC.gets F.ts fs with
      | some d => F.pre d ∧ match fillL (SA.fill (placeOf (F.sh.find 0 ⟨args, h⟩) h.next)) F.res (F.out d) with
        | some (vs, fs) => match fillL (blockFill (placeOf (F.sh.find 0 ⟨args, h⟩) h.next)) F.obl fs with
          | some (bs, _) => if leaveOk args h (F.sh.find 0 ⟨args, h⟩) (F.sh.blocks.map keptB) bs then K (resV vs) (putB h (F.sh.find 0 ⟨args, h⟩) (F.sh.blocks.map keptB) bs) else False
          | none => False
        | none => False
      | none => False
    else False
  | none => False
theorem leaveOk_len {args : List Value} {h : Hp} : ∀ {ρ : Rho} {ks : List Bool} {xs : List (Option Blk)}, leaveOk args h ρ ks xs = true → ρ.length = ks.length ∧ ρ.length ≤ xs.length ∧ ∀ i y, xs[ρ.length + i]? = some (some y) → ownB y = true
  | [], [], xs, e => ⟨rfl, Nat.zero_le _, fun i y hy => List.all_eq_true.1 e (some y) (List.mem_of_getElem? hy)⟩
  | b :: ρ, k :: ks, x :: xs, e => by
    simp only [leaveOk, Bool.and_eq_true] at e
    obtain ⟨h1, h2, h3⟩ := leaveOk_len e.2
    refine ⟨by rw [List.length_cons, List.length_cons, h1], by rw [List.length_cons, List.length_cons]; omega, fun i y hy => h3 i y ?_⟩
    rw [List.length_cons, show ρ.length + 1 + i = (ρ.length + i) + 1 by omega, List.getElem?_cons_succ] at hy
    exact hy
  | [], _ :: _, _, e => by simp [leaveOk] at e
  | _ :: _, [], _, e => by simp [leaveOk] at e
  | _ :: _, _ :: _, [], e => by simp [leaveOk] at e
theorem leaveOk_at {args : List Value} {h : Hp} : ∀ {ρ : Rho} {ks : List Bool} {xs : List (Option Blk)}, leaveOk args h ρ ks xs = true → ∀ (j b : Nat), ρ[j]? = some b →
    (∃ y x0, xs[j]? = some (some y) ∧ h.get b = some x0 ∧ ownB x0 = ownB y ∧ reachB args h b = true) ∨ (xs[j]? = some none ∧ ks[j]? = some true)
  | b0 :: ρ, k :: ks, x :: xs, e, j, b, hj => by
    simp only [leaveOk, Bool.and_eq_true] at e
    cases j with
    | zero =>
      simp only [List.getElem?_cons_zero, Option.some.injEq] at hj
      subst hj
      cases x with
      | none => exact .inr ⟨rfl, by have := e.1; simp at this; simp [this]⟩
      | some y =>
        have h1 := e.1
        simp only [Bool.and_eq_true] at h1
        cases hb : h.get b0 with
        | none => rw [hb] at h1; cases h1.1
        | some x0 => rw [hb] at h1; exact .inl ⟨y, x0, rfl, rfl, by simpa using h1.1, h1.2⟩
    | succ j =>
      simp only [List.getElem?_cons_succ] at hj ⊢
      exact leaveOk_at e.2 j b hj
  | [], [], _, _, j, b, hj => by simp at hj
  | [], _ :: _, _, e, _, _, _ => by simp [leaveOk] at e
  | _ :: _, [], _, e, _, _, _ => by simp [leaveOk] at e
  | _ :: _, _ :: _, [], e, _, _, _ => by simp [leaveOk] at e
theorem reach_mu {μ : Mu} {base : Nat} {w : World} {h : Hp} (hrel : Rel μ base h.get w) {b : Nat} : ∀ {args : List Value} {l : List Value}, All2 (VR μ) args l → reachB args h b = true → ∃ p, μ b = some p
  | [], _, _, h => by simp [reachB] at h
  | a :: args, l, hl, hr => by
    obtain ⟨v', l', rfl, r, hl⟩ := hl.inv_cons
    unfold reachB at hr
    rw [List.any_cons, Bool.or_eq_true] at hr
    rcases hr with hr | hr
    · rw [Bool.or_eq_true] at hr
      rcases hr with hr | hr
      · unfold isPtrTo at hr
        split at hr
        · rename_i ad
          simp only [Bool.and_eq_true, beq_iff_eq, Option.isNone_iff_eq_none] at hr
          obtain ⟨ab, ao, asp⟩ := ad
          simp only at hr
          obtain ⟨rfl, rfl⟩ := hr
          obtain ⟨p, hp, _⟩ := r.inv_ptr
          exact ⟨p, hp⟩
        · cases hr
      · split at hr
        · rename_i ad
          simp only [Bool.and_eq_true, Option.isNone_iff_eq_none] at hr
          obtain ⟨ab, ao, asp⟩ := ad
          simp only at hr
          obtain ⟨rfl, hr⟩ := hr
          obtain ⟨p, hp, _⟩ := r.inv_ptr
          split at hr
          · rename_i cs ro hg
            obtain ⟨c, hc, hcb⟩ := List.any_eq_true.1 hr
            obtain ⟨i, hi⟩ := List.mem_iff_getElem?.1 hc
            obtain ⟨arr, e, fr, _, _, h3, _⟩ := hrel.blk _ p _ hp hg
            obtain ⟨u, _, hu⟩ := h3 i c hi
            unfold isRefTo at hcb
            split at hcb
            · rename_i ad
              simp only [Bool.and_eq_true, beq_iff_eq, Option.isNone_iff_eq_none] at hcb
              obtain ⟨bb, bo, bsp⟩ := ad
              simp only at hcb
              obtain ⟨rfl, rfl⟩ := hcb
              obtain ⟨q, hq, _⟩ := (VR.a (.one hu)).inv_ptr
              exact ⟨q, hq⟩
            · simp only [beq_iff_eq] at hcb
              subst hcb
              obtain ⟨q, hq, _⟩ := (VR.a (.one hu)).inv_map
              exact ⟨q, hq⟩
            · cases hcb
          · cases hr
        · cases hr
    · exact reach_mu hrel hl hr
theorem ocd_ok {P : Program} {F : OF} {f : FuncId} (hF : OFOk P f F) : ∀ args h K, ocd F args h K → FunSem P f args h K := by
  intro args h K e
  unfold ocd at e
  split at e
  case h_2 => exact e.elim
  rename_i fs hm
  split at e
  case isFalse => exact e.elim
  rename_i hc
  simp only [Bool.and_eq_true] at hc
  obtain ⟨⟨⟨hnd, hlt⟩, hwf⟩, hwa⟩ := hc
  split at e
  case h_2 => exact e.elim
  rename_i d hd
  obtain ⟨hpre, e⟩ := e
  split at e
  case h_2 => exact e.elim
  rename_i vs fs2 hvs
  split at e
  case h_2 => exact e.elim
  rename_i bs fs3 hbs
  split at e
  case isFalse => exact e.elim
  rename_i hok
  have hcall : ocon F args h fun v h' => v = resV vs ∧ h' = putB h (F.sh.find 0 ⟨args, h⟩) (F.sh.blocks.map keptB) bs := by
    unfold ocon
    rw [hm]
    simp only [hnd, hlt, Bool.and_self, if_true, hd]
    refine ⟨hpre, ?_⟩
    show (match fillL (SA.fill (placeOf (F.sh.find 0 ⟨args, h⟩) h.next)) F.res (F.out d) with
      | some (vs, fs) => match fillL (blockFill (placeOf (F.sh.find 0 ⟨args, h⟩) h.next)) F.obl fs with
        | some (bs, _) => _
        | none => False
      | none => False)
    rw [hvs]
    simp only [hbs]
    exact ⟨trivial, rfl⟩
  have hcs : CallSem P f args h fun v h' => v = resV vs ∧ h' = putB h (F.sh.find 0 ⟨args, h⟩) (F.sh.blocks.map keptB) bs := hF.sem args h _ hcall
  clear hcall hF hvs hbs hm
  generalize F.sh.find 0 ⟨args, h⟩ = ρ at *
  generalize F.sh.blocks.map keptB = ks at *
  obtain ⟨l1, l2, l3⟩ := leaveOk_len hok
  have hlt' : ∀ b ∈ ρ, b < h.next := fun b hb => of_decide_eq_true (List.all_eq_true.1 hlt b hb)
  obtain ⟨i1, i2, i3, i4⟩ := putB_spec (ρ := ρ) (ks := ks) (xs := bs) (h := h) l1 (by omega) (nodupB_spec hnd) hlt'
  have hget : ∀ (j b : Nat), ρ[j]? = some b → (∃ y x0, (putB h ρ ks bs).get b = some y ∧ h.get b = some x0 ∧ ownB x0 = ownB y ∧ reachB args h b = true) ∨ (putB h ρ ks bs).get b = h.get b := by
    intro j b hj
    have h3 := i3 j b hj
    rcases leaveOk_at hok j b hj with ⟨y, x0, h4, h5, h6, h7⟩ | ⟨h4, h5⟩
    · rw [h4] at h3
      exact .inl ⟨y, x0, h3, h5, h6, h7⟩
    · rw [h4, h5] at h3
      exact .inr (by simpa using h3)
  refine funSem_of (v1 := resV vs) (h1 := putB h ρ ks bs) hwf hwa (by omega) (fun b x hb hx => ?_) (fun b x hb hx => ?_) (fun {μ base w args'} hl hrel c hcl hμ => ?_) hcs e
  · by_cases hm' : b ∈ ρ
    · obtain ⟨j, hj⟩ := List.mem_iff_getElem?.1 hm'
      rcases hget j b hj with ⟨y, x0, h4, h5, h6, _⟩ | h4
      · rw [h4] at hx
        simp only [Option.some.injEq] at hx; subst hx
        exact ⟨x0, h5, h6⟩
      · rw [h4] at hx; exact ⟨x, hx, rfl⟩
    · rw [i2 b hb hm'] at hx; exact ⟨x, hx, rfl⟩
  · have h4 := i4 (b - h.next)
    rw [show h.next + (b - h.next) = b by omega, hx] at h4
    refine l3 (b - h.next) x ?_
    cases e : bs[ρ.length + (b - h.next)]? with
    | none => rw [e] at h4; cases h4
    | some o => rw [e] at h4; simp at h4; rw [← h4]
  · left
    by_cases hm' : c ∈ ρ
    · obtain ⟨j, hj⟩ := List.mem_iff_getElem?.1 hm'
      rcases hget j c hj with ⟨y, x0, h4, h5, h6, h7⟩ | h4
      · obtain ⟨p, hp⟩ := reach_mu hrel hl h7
        rw [hp] at hμ; cases hμ
      · exact h4
    · exact i2 c hcl hm'
end Go.Abs
end
section
namespace Go.Abs
open Go

section
variable {P : Program} {μ : Mu} {base : Nat} {w w' : World}

theorem sim_same {g : Gm} (hr : Rel μ base g w) (hb : RowKit.Below w.heap.size w w') : Sim μ base g w μ g w' := by
  refine ⟨Mu.le_refl μ, ⟨Nat.le_trans hr.size hb.size, fun c q y hc hy => ?_, hr.inj, fun c i a hc => ⟨let ⟨arr, e, fr, h1, h2⟩ := (hr.frz c i a hc).1; ⟨arr, e, fr, (hb.block c (Array.getElem?_eq_some_iff.1 h1).1).trans h1, h2⟩, (hr.frz c i a hc).2⟩⟩, ⟨hb.os, hb.tape, hb.output, hb.size, fun c hc _ => hb.block c hc⟩, fun c q y hc hy => .inr ⟨c, q, y, hc, hy, id, rfl⟩, fun _ _ _ h => .inl h⟩
  have := hr.blk c q y hc hy
  exact this.keep (Mu.le_refl μ) (hb.block _ this.lt)

theorem sim_fresh {g : Gm} {b : Nat} {x : Blk} {p : Pl} (hr : Rel μ base g w) (hg : RowKit.Below w.heap.size w w') (hb : μ b = none) (hpc : w.heap.size ≤ p.c)
    (hx : BR (Mu.upd μ b p) base w' p x) : Sim μ base g w (Mu.upd μ b p) (fun c => if c = b then some x else g c) w' := by
  have hle := Mu.le_upd (p := p) hb
  refine ⟨hle, ⟨Nat.le_trans hr.size hg.size, fun c q y hc hy => ?_, fun c c' q q' y y' hc hc' hy hy' hne ho => ?_, fun c i a hc => ?_⟩, ⟨hg.os, hg.tape, hg.output, hg.size, fun c hc _ => hg.block c hc⟩, fun c q y hc hy => ?_, fun _ _ _ h => .inl h⟩
  · by_cases e : c = b
    · subst e
      rw [Mu.upd_same] at hc
      simp at hc hy; subst hc; subst hy; exact hx
    · rw [Mu.upd_other e] at hc
      simp only [if_neg e] at hy
      have := hr.blk c q y hc hy
      exact this.keep hle (hg.block _ this.lt)
  · by_cases e : c = b
    · subst e
      have e' : c' ≠ c := fun h => hne h.symm
      rw [Mu.upd_same] at hc; rw [Mu.upd_other e'] at hc'
      simp at hc; subst hc
      simp only [if_neg e'] at hy'
      have := (hr.blk c' q' y' hc' hy').lt
      omega
    · rw [Mu.upd_other e] at hc
      simp only [if_neg e] at hy
      have h1 := (hr.blk c q y hc hy).lt
      by_cases e' : c' = b
      · subst e'
        rw [Mu.upd_same] at hc'
        simp at hc'; subst hc'
        omega
      · rw [Mu.upd_other e'] at hc'
        simp only [if_neg e'] at hy'
        exact hr.inj c c' q q' y y' hc hc' hy hy' hne ho
  · obtain ⟨⟨arr, e, fr, h1, h3⟩, h2⟩ := hr.frz c i a hc
    have hlt := (Array.getElem?_eq_some_iff.1 h1).1
    refine ⟨⟨arr, e, fr, (hg.block c hlt).trans h1, h3⟩, fun b' p' x' hb' hx' ho hcc => ?_⟩
    by_cases e : b' = b
    · subst e
      rw [Mu.upd_same] at hb'
      simp at hb'; subst hb'
      omega
    · rw [Mu.upd_other e] at hb'
      simp only [if_neg e] at hx'
      exact h2 b' p' x' hb' hx' ho hcc
  · by_cases e : c = b
    · subst e
      rw [Mu.upd_same] at hc
      simp at hc; subst hc
      exact .inl hpc
    · rw [Mu.upd_other e] at hc
      simp only [if_neg e] at hy
      exact .inr ⟨c, q, y, hc, hy, id, rfl⟩

/-- A function that answers a new row of plain values. -/
theorem out_row {h : Hp} {xs : List Value} {e : TypeId} {v : Value} (hr : Rel μ base h.get w) (hb : RowKit.Below w.heap.size w w') (hf : μ h.next = none) (hp : ∀ x ∈ xs, plain1 x = true) (hx : xs ≠ [])
    (ho : w'.ownsRow w.heap.size e 1 v xs.length xs) : ∃ μ', Out μ base h w (.slice (some ⟨h.next, 0, none⟩) xs.length (unk 1)) (h.push (.cells xs false)) v w' μ' := by
  obtain ⟨_, ho | ⟨g, cap, cur, rfl, h1, h2, h3, _, h5, h6⟩⟩ := ho
  · exact absurd (List.length_eq_zero_iff.1 ho.2) hx
  · simp only [Nat.mul_one] at h5 h6
    refine ⟨Mu.upd μ h.next ⟨g, 0, cap⟩, .zero (.slice (p := ⟨g, 0, cap⟩) (Mu.upd_same _ _ _) h3 (.inl ⟨?_, ?_⟩)), ?_, Nat.le_succ _, dom_upd rfl, .push μ h _⟩
    · show UNK0 ≤ unk 1; unfold UNK0 unk; omega
    · show 0 + 0 + cap * (unk 1 - UNK0) ≤ cap
      have : unk 1 - UNK0 = 1 := by unfold UNK0 unk; omega
      rw [this]; omega
    · have := sim_fresh (x := .cells xs false) (p := ⟨g, 0, cap⟩) hr hb hf h1 ⟨cur, e, (0, 0), h2, h5, fun i y hy => ⟨y, ?_, .refl_plain (hp y (List.mem_of_getElem? hy))⟩, fun _ => ⟨Nat.le_trans hr.size h1, fun i _ hi => by omega, fun _ => rfl⟩⟩
      · rw [get_push_fun]; exact this
      · show cur[0 + i]? = some y
        rw [Nat.zero_add, ← Array.getElem?_toList]
        rw [← h6, List.getElem?_take] at hy
        split at hy
        · exact hy
        · cases hy
end
end Go.Abs
end
section
namespace Go.Abs

section
variable {α : Type} (le : α → α → Bool)

def insS (a : α) : List α → List α
  | [] => [a]
  | b :: l => if le a b then a :: b :: l else b :: insS a l
def sortS : List α → List α
  | [] => []
  | a :: l => insS le a (sortS l)

theorem insS_perm (a : α) : ∀ l, (insS le a l).Perm (a :: l)
  | [] => .refl _
  | b :: l => by
    unfold insS
    split
    · exact .refl _
    · exact ((insS_perm a l).cons b).trans (.swap a b l)
theorem sortS_perm : ∀ l : List α, (sortS le l).Perm l
  | [] => .refl _
  | a :: l => (insS_perm le a _).trans ((sortS_perm l).cons a)

variable {le}
theorem insS_sorted (tr : ∀ a b c, le a b = true → le b c = true → le a c = true) (to : ∀ a b, (le a b || le b a) = true) (a : α) : ∀ {l : List α}, l.Pairwise (fun x y => le x y = true) → (insS le a l).Pairwise (fun x y => le x y = true)
  | [], _ => by simp [insS]
  | b :: l, h => by
    unfold insS
    have h1 := List.pairwise_cons.1 h
    split
    · rename_i hab
      refine List.pairwise_cons.2 ⟨fun x hx => ?_, h⟩
      rcases List.mem_cons.1 hx with rfl | hx
      · exact hab
      · exact tr _ _ _ hab (h1.1 x hx)
    · rename_i hab
      refine List.pairwise_cons.2 ⟨fun x hx => ?_, insS_sorted tr to a h1.2⟩
      have hx' := (insS_perm le a l).mem_iff.1 hx
      rcases List.mem_cons.1 hx' with rfl | hx'
      · have := to x b
        simp only [Bool.or_eq_true] at this
        rcases this with h2 | h2
        · exact absurd h2 hab
        · exact h2
      · exact h1.1 x hx'
theorem sortS_sorted (tr : ∀ a b c, le a b = true → le b c = true → le a c = true) (to : ∀ a b, (le a b || le b a) = true) : ∀ l : List α, (sortS le l).Pairwise (fun x y => le x y = true)
  | [] => .nil
  | a :: l => insS_sorted tr to a (sortS_sorted tr to l)

/-- Whatever has the same elements, merge-sorted. -/
theorem sortS_eq (tr : ∀ a b c, le a b = true → le b c = true → le a c = true) (to : ∀ a b, (le a b || le b a) = true) (an : ∀ a b, le a b = true → le b a = true → a = b) {l l' : List α} (h : l.Perm l') : l.mergeSort le = sortS le l' :=
  List.Perm.eq_of_pairwise (le := fun a b => le a b = true) (fun a b _ _ h1 h2 => an a b h1 h2) (List.pairwise_mergeSort tr to l) (sortS_sorted tr to l') (((List.mergeSort_perm l le).trans h).trans (sortS_perm le l').symm)
end

theorem sortS_int {l l' : List Int} (h : l.Perm l') : l.mergeSort (fun x y => decide (x ≤ y)) = sortS (fun x y => decide (x ≤ y)) l' :=
  sortS_eq (fun a b c h1 h2 => by simp only [decide_eq_true_eq] at *; exact Int.le_trans h1 h2) (fun a b => by simp only [Bool.or_eq_true, decide_eq_true_eq]; exact Int.le_total a b)
    (fun a b h1 h2 => by simp only [decide_eq_true_eq] at *; exact Int.le_antisymm h1 h2) h
theorem sortS_str {l l' : List (List UInt8)} (h : l.Perm l') : l.mergeSort (fun x y => decide (x ≤ y)) = sortS (fun x y => decide (x ≤ y)) l' :=
  sortS_eq (fun a b c h1 h2 => by simp only [decide_eq_true_eq] at *; exact List.le_trans h1 h2) (fun a b => by simp only [Bool.or_eq_true, decide_eq_true_eq]; exact List.le_total a b)
    (fun a b h1 h2 => by simp only [decide_eq_true_eq] at *; exact List.le_antisymm h1 h2) h
end Go.Abs
end
section
namespace Go.Abs
open Go Go.WideElems Go.MapKept

section
variable {P : Program} {k : TypeId}

theorem insert_perm {H : Type} (x : Lit × DataW H) : ∀ l, (DataW.insert x l).Perm (x :: l)
  | [] => .refl _
  | y :: l => by
    unfold DataW.insert
    split
    · exact .refl _
    · exact ((insert_perm x l).cons y).trans (.swap x y l)
theorem foldr_insert_perm {H : Type} : ∀ l : List (Lit × DataW H), (l.foldr DataW.insert []).Perm l
  | [] => .refl _
  | x :: l => (insert_perm x _).trans ((foldr_insert_perm l).cons x)

/-- Values are read as nothing. -/
def blankR : Value → Option (DataW Unit × List MemPlace) := fun _ => some (.nil, [])

theorem ownsMap_int {w : World} {b clock : Nat} {es : Array MapEntry} {ns : List Int} (hb : w.heap[b]? = some (.map es clock)) (hk : P.underlying k = some (.int .i64)) (hst : Stamped es clock) (hsz : es.size ≤ maxLen)
    (hkeys : es.toList.map (·.key) = ns.map (Value.int .i64)) (hns : ∀ n ∈ ns, (Lit.int .i64 n).wf = true) :
    ∃ D0 : DataW Unit, w.ownsMap P k blankR b es.size D0 ∧ (intKeys D0).Perm ns ∧ Maps.size D0 = es.size := by
  have key : ∀ x ∈ es.toList, ∃ n, x.key = .int .i64 n ∧ (Lit.int .i64 n).wf = true := by
    intro x hx
    have : x.key ∈ es.toList.map (·.key) := List.mem_map.2 ⟨x, hx, rfl⟩
    rw [hkeys] at this
    obtain ⟨n, hn, he⟩ := List.mem_map.1 this
    exact ⟨n, he.symm, hns n hn⟩
  have read : ∀ x ∈ es.toList, ∀ n, x.key = .int .i64 n → (Lit.int .i64 n).wf = true → rd P k blankR x = some (.int .i64 n, .nil) := by
    intro x _ n he hw
    unfold rd keyOf
    rw [hk, he]
    simp [mapKey, hk, blankR, hw]
  refine ⟨_, ⟨es, clock, hb, ⟨hsz, hst, fun x hx => ?_⟩, Nat.le_refl _, rfl⟩, ?_, ?_⟩
  rotate_left 2
  · show ((es.toList.map (rg P k blankR)).foldr DataW.insert []).length = _
    rw [(foldr_insert_perm _).length_eq]; simp
  · obtain ⟨n, h1, h2⟩ := key x hx
    exact ⟨_, read x hx n h1 h2⟩
  · show ((es.toList.map (rg P k blankR)).foldr DataW.insert [] |>.map fun p => intOf p.1).Perm ns
    refine ((foldr_insert_perm _).map _).trans ?_
    rw [List.map_map]
    have : es.toList.map ((fun p => intOf p.1) ∘ rg P k blankR) = ns := by
      have h2 : (es.toList.map (·.key)).map (fun v => match v with | .int _ n => n | _ => 0) = ns := by
        rw [hkeys, List.map_map]
        conv => rhs; rw [← List.map_id ns]
        rfl
      rw [← h2, List.map_map]
      refine List.map_congr_left fun x hx => ?_
      obtain ⟨n, h1, h3⟩ := key x hx
      simp only [Function.comp]
      unfold rg
      rw [read x hx n h1 h3, h1]
      rfl
    rw [this]

theorem ownsMap_str {w : World} {b clock : Nat} {es : Array MapEntry} {ns : List ByteArray} (hb : w.heap[b]? = some (.map es clock)) (hk : P.underlying k = some .string) (hst : Stamped es clock) (hsz : es.size ≤ maxLen)
    (hkeys : es.toList.map (·.key) = ns.map Value.string) (hns : ∀ n ∈ ns, n.size ≤ maxLen) :
    ∃ D0 : DataW Unit, w.ownsMap P k blankR b es.size D0 ∧ (strKeys D0).Perm (ns.map (·.data.toList)) ∧ Maps.size D0 = es.size := by
  have key : ∀ x ∈ es.toList, ∃ n, x.key = .string n ∧ n.size ≤ maxLen := by
    intro x hx
    have : x.key ∈ es.toList.map (·.key) := List.mem_map.2 ⟨x, hx, rfl⟩
    rw [hkeys] at this
    obtain ⟨n, hn, he⟩ := List.mem_map.1 this
    exact ⟨n, he.symm, hns n hn⟩
  have read : ∀ x ∈ es.toList, ∀ n, x.key = .string n → n.size ≤ maxLen → rd P k blankR x = some (.string n.data.toList, .nil) := by
    intro x _ n he hw
    unfold rd keyOf
    rw [hk, he]
    simp [mapKey, hk, blankR, hw]
  refine ⟨_, ⟨es, clock, hb, ⟨hsz, hst, fun x hx => ?_⟩, Nat.le_refl _, rfl⟩, ?_, ?_⟩
  rotate_left 2
  · show ((es.toList.map (rg P k blankR)).foldr DataW.insert []).length = _
    rw [(foldr_insert_perm _).length_eq]; simp
  · obtain ⟨n, h1, h2⟩ := key x hx
    exact ⟨_, read x hx n h1 h2⟩
  · show ((es.toList.map (rg P k blankR)).foldr DataW.insert [] |>.map fun p => strOf p.1).Perm (ns.map (·.data.toList))
    refine ((foldr_insert_perm _).map _).trans ?_
    rw [List.map_map]
    have : es.toList.map ((fun p => strOf p.1) ∘ rg P k blankR) = ns.map (·.data.toList) := by
      have h2 : (es.toList.map (·.key)).map (fun v => match v with | .string n => n.data.toList | _ => []) = ns.map (·.data.toList) := by
        rw [hkeys, List.map_map]
        rfl
      rw [← h2, List.map_map]
      refine List.map_congr_left fun x hx => ?_
      obtain ⟨n, h1, h3⟩ := key x hx
      simp only [Function.comp]
      unfold rg
      rw [read x hx n h1 h3, h1]
      rfl
    rw [this]
end
end Go.Abs
end
section
namespace Go.Abs
open Go Ieee

theorem log2_scale {n : Nat} (hn : n ≠ 0) (K : Nat) : (n * 2 ^ K).log2 = n.log2 + K := by
  have h0 : n * 2 ^ K ≠ 0 := Nat.mul_ne_zero hn (Nat.pos_iff_ne_zero.1 (Nat.two_pow_pos K))
  rw [Nat.log2_eq_iff h0]
  have h1 := Nat.log2_self_le hn
  have h2 := Nat.lt_log2_self (n := n)
  constructor
  · rw [Nat.pow_add]; exact Nat.mul_le_mul_right _ h1
  · rw [show n.log2 + K + 1 = n.log2 + 1 + K by omega, Nat.pow_add]; exact Nat.mul_lt_mul_of_pos_right h2 (Nat.two_pow_pos K)
theorem shl_eq (m k : Nat) : m <<< k = m * 2 ^ k := Nat.shiftLeft_eq m k
/-- What is a multiple of what is dropped is cut exactly. -/
theorem cut_even {a k : Nat} (ha : a ≠ 0) : Toward.even.cut false (a * 2 ^ k) k = a := by
  unfold Toward.cut
  have h1 : min k ((a * 2 ^ k).log2 + 2) = k := by rw [log2_scale ha]; omega
  rw [h1, shl_eq, Nat.one_mul]
  have hp := Nat.two_pow_pos k
  simp only [Nat.mul_mod_left, Nat.mul_div_cancel _ hp, Nat.mul_zero]
  have h2 : (decide (2 ^ k < 0) || (2 ^ k == 0) && a % 2 == 1) = false := by
    rw [show decide (2 ^ k < 0) = false from by simp, show (2 ^ k == 0) = false from by simp]
    rfl
  rw [h2]; rfl
theorem cut_zero {a k : Nat} (ha : a ≠ 0) : Toward.zero.cut false (a * 2 ^ k) k = a := by
  unfold Toward.cut
  have h1 : min k ((a * 2 ^ k).log2 + 2) = k := by rw [log2_scale ha]; omega
  rw [h1, shl_eq, Nat.one_mul]
  have hp := Nat.two_pow_pos k
  simp only [Nat.mul_div_cancel _ hp]
  rfl

/-- The word of a whole number. -/
def wordOf (n : Nat) : Nat := if n = 0 then 0 else (n.log2 + 1022) * 4503599627370496 + n * 2 ^ (52 - n.log2)
theorem kept_bounds {n : Nat} (hn : n ≠ 0) (h : n < 9007199254740992) : n.log2 ≤ 52 ∧ 4503599627370496 ≤ n * 2 ^ (52 - n.log2) ∧ n * 2 ^ (52 - n.log2) < 9007199254740992 := by
  have hl : n.log2 < 53 := (Nat.log2_lt hn).2 (by rw [show (2 : Nat) ^ 53 = 9007199254740992 from rfl]; exact h)
  have h1 := Nat.log2_self_le hn
  have h2 := Nat.lt_log2_self (n := n)
  refine ⟨Nat.le_of_lt_succ hl, ?_, ?_⟩
  · have := Nat.mul_le_mul_right (2 ^ (52 - n.log2)) h1
    rw [← Nat.pow_add, Nat.add_sub_cancel' (Nat.le_of_lt_succ hl), show (2 : Nat) ^ 52 = 4503599627370496 from rfl] at this
    exact this
  · have := Nat.mul_lt_mul_of_pos_right h2 (Nat.two_pow_pos (52 - n.log2))
    rw [← Nat.pow_add, show n.log2 + 1 + (52 - n.log2) = 53 from by clear h1 h2 this; omega, show (2 : Nat) ^ 53 = 9007199254740992 from rfl] at this
    exact this
theorem last_eq (K L : Nat) (hL : L ≤ 52) : max (-(K : Int) + ((L + K : Nat) : Int) - 52) (-1074) = (L : Int) - 52 := by omega
theorem sh_le (K L : Nat) (hL : L ≤ 52) (hc : K ≤ 52 - L) : (-(K : Int) - ((L : Int) - 52)).toNat = 52 - L - K ∧ (((L : Int) - 52) - -(K : Int)).toNat = 0 := by omega
theorem sh_gt (K L : Nat) (hL : L ≤ 52) (hc : ¬ K ≤ 52 - L) : (-(K : Int) - ((L : Int) - 52)).toNat = 0 ∧ (((L : Int) - 52) - -(K : Int)).toNat = K - (52 - L) := by omega
theorem rung_eq (L : Nat) : (((L : Int) - 52) - -1074).toNat = L + 1022 := by omega
theorem rung_le {L x : Nat} (hL : L ≤ 52) (hx : x < 9007199254740992) : (L + 1022) * 4503599627370496 + x ≤ 2047 * 4503599627370496 := by omega
theorem kept_eq {n K : Nat} (hn : n ≠ 0) (hl : n.log2 ≤ 52) : Toward.even.cut false ((n * 2 ^ K) <<< (-(K : Int) - ((n.log2 : Int) - 52)).toNat) (((n.log2 : Int) - 52) - -(K : Int)).toNat = n * 2 ^ (52 - n.log2) := by
  have hx : n * 2 ^ (52 - n.log2) ≠ 0 := Nat.mul_ne_zero hn (Nat.pos_iff_ne_zero.1 (Nat.two_pow_pos _))
  by_cases hc : K ≤ 52 - n.log2
  · obtain ⟨e1, e2⟩ := sh_le K n.log2 hl hc
    rw [e1, e2, shl_eq, Nat.mul_assoc, ← Nat.pow_add, Nat.add_sub_cancel' hc]
    have := cut_even (a := n * 2 ^ (52 - n.log2)) (k := 0) hx
    rw [Nat.pow_zero, Nat.mul_one] at this
    exact this
  · obtain ⟨e1, e2⟩ := sh_gt K n.log2 hl hc
    rw [e1, e2, shl_eq, Nat.pow_zero, Nat.mul_one]
    have := cut_even (a := n * 2 ^ (52 - n.log2)) (k := K - (52 - n.log2)) hx
    rw [Nat.mul_assoc, ← Nat.pow_add, Nat.add_sub_cancel' (Nat.le_of_not_le hc)] at this
    exact this
theorem word_pos (f : Format) (r : Nat) : f.word false r = r := rfl
theorem dbl_binade : Ieee.double.binade = 4503599627370496 := by decide
theorem dbl_inf : Ieee.double.infRung = 2047 * 4503599627370496 := by decide
theorem dbl_sign : Ieee.double.signWeight = 9223372036854775808 := by decide
theorem dbl_place : Ieee.double.leastPlace = -1074 := by decide
theorem dbl_frac : (Ieee.double.fractionBits : Int) = 52 := rfl
theorem ns0 : Ieee.double.nearest false 0 0 = 0 := by
  unfold Format.nearest
  rw [if_pos rfl, word_pos]
theorem ns1 {n : Nat} (K : Nat) (h0 : n * 2 ^ K ≠ 0) (f : Format) (p : Int) : f.nearest false (n * 2 ^ K) p = f.word false (min ((max (p + (n * 2 ^ K).log2 - f.fractionBits) f.leastPlace - f.leastPlace).toNat * f.binade + Toward.even.cut false ((n * 2 ^ K) <<< (p - (max (p + (n * 2 ^ K).log2 - f.fractionBits) f.leastPlace)).toNat) ((max (p + (n * 2 ^ K).log2 - f.fractionBits) f.leastPlace) - p).toNat) f.infRung) := by
  unfold Format.nearest
  rw [if_neg h0]
theorem ns2 {n : Nat} (h : n < 9007199254740992) (hn : n ≠ 0) (K : Nat) (h0 : n * 2 ^ K ≠ 0) : Ieee.double.nearest false (n * 2 ^ K) (-(K : Int)) = (n.log2 + 1022) * 4503599627370496 + n * 2 ^ (52 - n.log2) := by
  obtain ⟨hl, _, hk2⟩ := kept_bounds hn h
  rw [ns1 K h0, dbl_place, dbl_frac, dbl_binade, dbl_inf, log2_scale hn, word_pos, last_eq K n.log2 hl, kept_eq hn hl, rung_eq]
  exact Nat.min_eq_left (rung_le hl hk2)
theorem nearest_scale {n : Nat} (h : n < 9007199254740992) (K : Nat) : Ieee.double.nearest false (n * 2 ^ K) (-(K : Int)) = wordOf n := by
  unfold wordOf
  by_cases hn : n = 0
  · subst hn
    rw [if_pos rfl, Nat.zero_mul]
    unfold Format.nearest
    rw [if_pos rfl, word_pos]
  · rw [if_neg hn]
    exact ns2 h hn K (Nat.mul_ne_zero hn (Nat.pos_iff_ne_zero.1 (Nat.two_pow_pos K)))
theorem fof_word {n : Nat} (h : n < 9007199254740992) : std.fof (n : Int) = wordOf n := by
  show Ieee.double.nearest (decide ((n : Int) < 0)) (n : Int).natAbs 0 = _
  have h1 : decide ((n : Int) < 0) = false := by simp
  rw [h1, Int.natAbs_natCast]
  have := nearest_scale h 0
  rw [Nat.pow_zero, Nat.mul_one] at this
  exact this
/-- The word of a whole number stands for it. -/
theorem read_parts {L x : Nat} (hL : L ≤ 52) (h1 : 4503599627370496 ≤ x) (h2 : x < 9007199254740992) : Ieee.double.read ((L + 1022) * 4503599627370496 + x) = .number false x (-((52 - L : Nat) : Int)) := by
  unfold Format.read
  simp only [dbl_sign, dbl_binade, dbl_inf, dbl_place]
  have hlt : (L + 1022) * 4503599627370496 + x < 9223372036854775808 := by omega
  have e1 : ((L + 1022) * 4503599627370496 + x) / 9223372036854775808 = 0 := Nat.div_eq_of_lt hlt
  have e2 : ((L + 1022) * 4503599627370496 + x) % 9223372036854775808 = (L + 1022) * 4503599627370496 + x := Nat.mod_eq_of_lt hlt
  rw [e1, e2, if_neg (by omega), if_pos (by omega)]
  have e3 : ((L + 1022) * 4503599627370496 + x) % 4503599627370496 = x - 4503599627370496 := by omega
  have e4 : ((L + 1022) * 4503599627370496 + x) / 4503599627370496 = L + 1023 := by omega
  have e5 : 4503599627370496 + (x - 4503599627370496) = x := by omega
  have e6 : (-1074 + ((L + 1023 - 1 : Nat) : Int)) = -((52 - L : Nat) : Int) := by omega
  rw [e3, e4, e5, e6]
  rfl
theorem read_word {n : Nat} (h : n < 9007199254740992) : ∃ k : Nat, Ieee.double.read (wordOf n) = .number false (n * 2 ^ k) (-(k : Int)) := by
  unfold wordOf
  by_cases hn : n = 0
  · subst hn
    rw [if_pos rfl]
    obtain ⟨k, hk⟩ : ∃ k : Nat, k = 1074 := ⟨_, rfl⟩
    refine ⟨k, ?_⟩
    rw [Nat.zero_mul, hk]
    unfold Format.read
    simp only [dbl_place, dbl_sign, dbl_binade, Nat.zero_mod, Nat.zero_div]
    rw [if_pos (by omega)]
    rfl
  · rw [if_neg hn]
    obtain ⟨hl, hk1, hk2⟩ := kept_bounds hn h
    exact ⟨52 - n.log2, read_parts hl hk1 hk2⟩
theorem signed_scale (n a b : Nat) (h : a ≤ b) : signed false (n * 2 ^ a) (-(a : Int) - -(b : Int)).toNat = ((n * 2 ^ b : Nat) : Int) := by
  have e : (-(a : Int) - -(b : Int)).toNat = b - a := by omega
  unfold signed
  rw [e, shl_eq, Nat.mul_assoc, ← Nat.pow_add, show a + (b - a) = b by omega]
  rfl
theorem order_word {m n : Nat} (hm : m < 9007199254740992) (hn : n < 9007199254740992) : ∃ k : Nat, Ieee.double.order (wordOf m) (wordOf n) = some (compare ((m * 2 ^ k : Nat) : Int) ((n * 2 ^ k : Nat) : Int)) := by
  obtain ⟨a, ha⟩ := read_word hm
  obtain ⟨b, hb⟩ := read_word hn
  refine ⟨max a b, ?_⟩
  unfold Format.order
  rw [ha, hb]
  show some (compare (signed false (m * 2 ^ a) (-(a : Int) - min (-(a : Int)) (-(b : Int))).toNat) (signed false (n * 2 ^ b) (-(b : Int) - min (-(a : Int)) (-(b : Int))).toNat)) = _
  have e : min (-(a : Int)) (-(b : Int)) = -((max a b : Nat) : Int) := by omega
  rw [e, signed_scale m a (max a b) (Nat.le_max_left a b), signed_scale n b (max a b) (Nat.le_max_right a b)]
theorem feq_fof {m n : Int} (hm : 0 ≤ m ∧ m < 9007199254740992) (hn : 0 ≤ n ∧ n < 9007199254740992) : std.feq (std.fof m) (std.fof n) = (m == n) := by
  obtain ⟨a, rfl⟩ := Int.eq_ofNat_of_zero_le hm.1
  obtain ⟨b, rfl⟩ := Int.eq_ofNat_of_zero_le hn.1
  have ha : a < 9007199254740992 := by omega
  have hb : b < 9007199254740992 := by omega
  rw [fof_word ha, fof_word hb]
  obtain ⟨k, hk⟩ := order_word ha hb
  show (Ieee.double.order (wordOf a) (wordOf b) == some .eq) = _
  rw [hk]
  have hp := Nat.two_pow_pos k
  by_cases e : a = b
  · subst e
    rw [Int.compare_eq_eq.2 rfl]
    simp
  · have h1 : ¬ a * 2 ^ k = b * 2 ^ k := fun h => e (Nat.eq_of_mul_eq_mul_right hp h)
    have h2 : compare ((a * 2 ^ k : Nat) : Int) ((b * 2 ^ k : Nat) : Int) ≠ .eq := fun h => h1 (by have := Int.compare_eq_eq.1 h; omega)
    have h3 : ((a : Int) == (b : Int)) = false := by simp; omega
    rw [h3]
    simpa using h2
theorem fge_fof {m n : Int} (hm : 0 ≤ m ∧ m < 9007199254740992) (hn : 0 ≤ n ∧ n < 9007199254740992) : std.fge (std.fof m) (std.fof n) = decide (n ≤ m) := by
  obtain ⟨a, rfl⟩ := Int.eq_ofNat_of_zero_le hm.1
  obtain ⟨b, rfl⟩ := Int.eq_ofNat_of_zero_le hn.1
  have ha : a < 9007199254740992 := by omega
  have hb : b < 9007199254740992 := by omega
  rw [fof_word ha, fof_word hb]
  obtain ⟨k, hk⟩ := order_word ha hb
  show (Ieee.double.order (wordOf a) (wordOf b) == some .gt || Ieee.double.order (wordOf a) (wordOf b) == some .eq) = _
  rw [hk]
  have hp := Nat.two_pow_pos k
  by_cases e : b ≤ a
  · have h1 : b * 2 ^ k ≤ a * 2 ^ k := Nat.mul_le_mul_right _ e
    rw [decide_eq_true (by omega : (b : Int) ≤ (a : Int))]
    by_cases h2 : b * 2 ^ k = a * 2 ^ k
    · rw [h2, Int.compare_eq_eq.2 rfl]; rfl
    · rw [Int.compare_eq_gt.2 (by omega)]; rfl
  · have h1 : a * 2 ^ k < b * 2 ^ k := Nat.mul_lt_mul_of_pos_right (by omega) hp
    rw [decide_eq_false (by omega : ¬ (b : Int) ≤ (a : Int)), Int.compare_eq_lt.2 (by omega)]
    rfl
theorem toInt_word {n : Nat} (h : n < 9007199254740992) : (Ieee.double.read (wordOf n)).toInt .zero = some (n : Int) := by
  obtain ⟨k, hk⟩ := read_word h
  rw [hk]
  unfold Datum.toInt Datum.integral
  simp only
  have e1 : (-(k : Int)).toNat = 0 := by omega
  have e2 : (- -(k : Int)).toNat = k := by omega
  rw [e1, e2, shl_eq, Nat.pow_zero, Nat.mul_one]
  by_cases hn : n = 0
  · subst hn
    rw [Nat.zero_mul]
    have : Toward.zero.cut false 0 k = 0 := by unfold Toward.cut; simp
    rw [this]; rfl
  · rw [cut_zero hn]
    unfold signed
    rw [shl_eq, Nat.pow_zero, Nat.mul_one]; rfl
theorem fint_fof {n : Int} (h : 0 ≤ n ∧ n < 9007199254740992) : std.fint (std.fof n) = n := by
  obtain ⟨a, rfl⟩ := Int.eq_ofNat_of_zero_le h.1
  have ha : a < 9007199254740992 := by omega
  rw [fof_word ha]
  show ((Ieee.double.read (wordOf a)).toInt .zero).getD 0 = _
  rw [toInt_word ha]; rfl
theorem fintOk_fof {n : Int} (h : 0 ≤ n ∧ n < 9007199254740992) : std.fintOk (std.fof n) := by
  obtain ⟨a, rfl⟩ := Int.eq_ofNat_of_zero_le h.1
  have ha : a < 9007199254740992 := by omega
  rw [fof_word ha]
  show (Ieee.double.read (wordOf a)).toInt .zero = some (((Ieee.double.read (wordOf a)).toInt .zero).getD 0) ∧ _ ≤ ((Ieee.double.read (wordOf a)).toInt .zero).getD 0 ∧ ((Ieee.double.read (wordOf a)).toInt .zero).getD 0 ≤ _
  rw [toInt_word ha]
  exact ⟨rfl, by show _ ≤ (a : Int); omega, by show (a : Int) ≤ _; omega⟩
theorem add_word {m n : Nat} (h : m + n < 9007199254740992) : Ieee.double.add (wordOf m) (wordOf n) = some (wordOf (m + n)) := by
  obtain ⟨a, ha⟩ := read_word (show m < 9007199254740992 by omega)
  obtain ⟨b, hb⟩ := read_word (show n < 9007199254740992 by omega)
  unfold Format.add
  rw [ha, hb]
  have e : min (-(a : Int)) (-(b : Int)) = -((max a b : Nat) : Int) := by omega
  have ht : signed false (m * 2 ^ a) (-(a : Int) - min (-(a : Int)) (-(b : Int))).toNat + signed false (n * 2 ^ b) (-(b : Int) - min (-(a : Int)) (-(b : Int))).toNat = (((m + n) * 2 ^ (max a b) : Nat) : Int) := by
    rw [e, signed_scale m a (max a b) (Nat.le_max_left a b), signed_scale n b (max a b) (Nat.le_max_right a b), Nat.add_mul]
    omega
  unfold Datum.sum
  simp only [ht]
  have hneg : (if (((m + n) * 2 ^ (max a b) : Nat) : Int) = 0 then (false && false) else decide ((((m + n) * 2 ^ (max a b) : Nat) : Int) < 0)) = false := by
    split
    · rfl
    · simp only [decide_eq_false_iff_not]; omega
  rw [hneg, e, Int.natAbs_natCast, Option.map_some]
  show some (Ieee.double.nearest false ((m + n) * 2 ^ (max a b)) (-((max a b : Nat) : Int))) = _
  rw [nearest_scale h]
theorem fadd_fof {m n : Int} (hm : 0 ≤ m) (hn : 0 ≤ n) (h : m + n < 9007199254740992) : std.fadd (std.fof m) (std.fof n) = std.fof (m + n) := by
  obtain ⟨a, rfl⟩ := Int.eq_ofNat_of_zero_le hm
  obtain ⟨b, rfl⟩ := Int.eq_ofNat_of_zero_le hn
  have hab : a + b < 9007199254740992 := by omega
  rw [fof_word (show a < 9007199254740992 by omega), fof_word (show b < 9007199254740992 by omega), show (a : Int) + (b : Int) = ((a + b : Nat) : Int) by omega, fof_word hab]
  show (Ieee.double.add (wordOf a) (wordOf b)).getD 0 = _
  rw [add_word hab]; rfl
theorem faddOk_fof {m n : Int} (hm : 0 ≤ m) (hn : 0 ≤ n) (h : m + n < 9007199254740992) : std.faddOk (std.fof m) (std.fof n) := by
  obtain ⟨a, rfl⟩ := Int.eq_ofNat_of_zero_le hm
  obtain ⟨b, rfl⟩ := Int.eq_ofNat_of_zero_le hn
  have hab : a + b < 9007199254740992 := by omega
  rw [fof_word (show a < 9007199254740992 by omega), fof_word (show b < 9007199254740992 by omega)]
  show ((Ieee.double.add (wordOf a) (wordOf b)).isSome : Bool) = true
  rw [add_word hab]; rfl
theorem word_fof {n : Nat} (h : n < 9007199254740992) : wordOf n = std.fof (n : Int) := (fof_word h).symm
end Go.Abs
end
