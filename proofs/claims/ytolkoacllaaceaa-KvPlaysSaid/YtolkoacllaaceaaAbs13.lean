/-
  THE ABSTRACT EVALUATOR AND THE MODEL: operations in the text's order.
-/
import Derived.Test.YtolkoacllaaceaaAbs12
namespace Go.Abs
open Go

/-- No number from lo on below hi is taken. -/
def Fresh (μ : Mu) (lo hi : Nat) : Prop := ∀ b, lo ≤ b → b < hi → μ b = none

/-- What a call of a function comes to in the model: a value at once, or a walk of its body. -/
def Does (P : Program) (f : FuncId) (args : Array Value) (w : World) (R : Value → World → Prop) : Prop :=
  (∃ v w', (callFunc f args).run P w = .ok (.value v) w' ∧ R v w') ∨
  ((callFunc f args).run P w = .ok (.enter f args) w ∧ Calls P f args w fun e w' => ∃ v, e = .returned v ∧ R v w')

structure CallOk (P : Program) (call : Caller) : Prop where
  next : ∀ {f args h v h'}, call f args h = some (v, h') → h.next ≤ h'.next
  does : ∀ {f args h v h'}, call f args h = some (v, h') → ∀ {μ : Mu} {base : Nat} {w : World} {args' : Array Value}, All2 (VR μ) args args'.toList → Rel μ base h.get w → Fresh μ h.next h'.next →
    Does P f args' w fun v' w' => ∃ μ', Out μ base h w v h' v' w' μ'

section
variable {P : Program}

theorem storeA_next {t : TypeId} {a x : Value} {h h' : Hp} (e : storeA P t a x h = some h') : h.next ≤ h'.next := by
  unfold storeA at e
  repeat' split at e
  all_goals first
    | (cases e; done)
    | (simp only [Option.some.injEq] at e; subst e; simp)
theorem mapUpdateA_next {t : TypeId} {a k x : Value} {h h' : Hp} (e : mapUpdateA P t a k x h = some h') : h.next ≤ h'.next := by
  unfold mapUpdateA at e
  repeat' split at e
  all_goals first
    | (cases e; done)
    | (simp only [Option.some.injEq] at e; subst e; simp)
theorem mapEntryA_next {t : TypeId} {a k v : Value} {h h' : Hp} (e : mapEntryA P t a k h = some (v, h')) : h.next ≤ h'.next := by
  unfold mapEntryA at e
  repeat' split at e
  all_goals first
    | (cases e; done)
    | (simp only [Option.some.injEq, Prod.mk.injEq] at e; obtain ⟨_, rfl⟩ := e; simp)
theorem entryStoreA_next {a k x : Value} {h h' : Hp} (e : entryStoreA a k x h = some h') : h.next ≤ h'.next := by
  unfold entryStoreA at e
  repeat' split at e
  all_goals first
    | (cases e; done)
    | (simp only [Option.some.injEq] at e; subst e; simp)
theorem deleteA_next {t : TypeId} {a k : Value} {h h' : Hp} (e : deleteA P t a k h = some h') : h.next ≤ h'.next := by
  unfold deleteA at e
  repeat' split at e
  all_goals first
    | (cases e; done)
    | (simp only [Option.some.injEq] at e; subst e; simp)
theorem appendA_next {st xt : TypeId} {s x v : Value} {h h' : Hp} (e : appendA P st xt s x h = some (v, h')) : h.next ≤ h'.next := by
  unfold appendA at e
  repeat' split at e
  all_goals first
    | (cases e; done)
    | (simp only [Option.some.injEq, Prod.mk.injEq] at e; obtain ⟨_, rfl⟩ := e; simp)
theorem copyA_next {st xt : TypeId} {s x v : Value} {h h' : Hp} (e : copyA P st xt s x h = some (v, h')) : h.next ≤ h'.next := by
  unfold copyA at e
  repeat' split at e
  all_goals first
    | (cases e; done)
    | (simp only [Option.some.injEq, Prod.mk.injEq] at e; obtain ⟨_, rfl⟩ := e; simp)
theorem externA_next {n o : String} {args : List Value} {v : Value} {h h' : Hp} (e : externA n o args h = some (v, h')) : h.next ≤ h'.next := by
  unfold externA at e
  repeat' split at e
  all_goals first
    | (cases e; done)
    | (simp only [Option.some.injEq, Prod.mk.injEq] at e; obtain ⟨_, rfl⟩ := e; simp)

theorem map_undef {x : Option Hp} {v : Value} {h' : Hp} (e : (x.map fun h' => (undef, h')) = some (v, h')) : x = some h' ∧ v = undef := by
  cases x with
  | none => simp at e
  | some y => simp at e; obtain ⟨rfl, rfl⟩ := e; exact ⟨rfl, rfl⟩

theorem stepE_next {ρ : Operand → Value} {o : Oper} {v : Value} {h h' : Hp} (e : stepE P ρ o h = some (v, h')) : h.next ≤ h'.next := by
  unfold stepE at e
  split at e
  · exact storeA_next (map_undef e).1
  · exact mapUpdateA_next (map_undef e).1
  · exact mapUpdateA_next (map_undef e).1
  · exact mapEntryA_next e
  · exact entryStoreA_next (map_undef e).1
  · split at e
    · exact appendA_next e
    · exact copyA_next e
    · exact deleteA_next (map_undef e).1
    · cases e
  · cases e

/-- What an operation of each kind owes. -/
def SemT (P : Program) (ρ : Operand → Value) (o : Oper) (v : Value) : Prop :=
  ∀ {μ : Mu} {ρ' : Operand → Value} (w : World), OpR μ ρ ρ' o.op.operands.toList → ∃ v', (execOp ρ' o).run P w = .ok (.value v') w ∧ VR μ v v'
def SemR (P : Program) (ρ : Operand → Value) (o : Oper) (h : Hp) (v : Value) : Prop :=
  ∀ {μ : Mu} {base : Nat} {w : World} {ρ' : Operand → Value}, OpR μ ρ ρ' o.op.operands.toList → Rel μ base h.get w → ∃ v', (execOp ρ' o).run P w = .ok (.value v') w ∧ VR μ v v'
def SemN (P : Program) (ρ : Operand → Value) (o : Oper) (x : Blk) (f : Nat → Value) : Prop :=
  ∀ {μ : Mu} {base : Nat} {w : World} {ρ' : Operand → Value} {g : Gm}, OpR μ ρ ρ' o.op.operands.toList → Rel μ base g w → ∀ {b : Nat}, μ b = none →
    ∃ v' w' p z, (execOp ρ' o).run P w = .ok (.value v') w' ∧ VR (Mu.updz μ b p z) (f b) v' ∧ Sim μ base g w (Mu.updz μ b p z) (fun c => if c = b then some x else g c) w'
def SemE (P : Program) (o : Oper) (s : St) (v : Value) (h' : Hp) : Prop :=
  ∀ {μ : Mu} {base : Nat} {w : World} {a : Act} {K : Act → World → Prop} {Q : Exit → Act → World → Prop}, OpR μ (evA s.tmps) a.eval o.op.operands.toList →
    Rel μ base s.h.get w → Fresh μ s.h.next h'.next → (∀ v' w' μ', Out μ base s.h w v h' v' w' μ' → K (a.put o.dst v') w') → o.wp P a w K Q

inductive StepS (P : Program) (o : Oper) (s : St) (v : Value) (h' : Hp) : Prop
  | T : kindOf P o.op = .T → h' = s.h → SemT P (evA s.tmps) o v → StepS P o s v h'
  | R : kindOf P o.op = .R → h' = s.h → SemR P (evA s.tmps) o s.h v → StepS P o s v h'
  | N {x : Blk} {f : Nat → Value} : kindOf P o.op = .N → v = f s.h.next → h' = s.h.push x → SemN P (evA s.tmps) o x f → StepS P o s v h'
  | E : isEff P o = true → s.h.next ≤ h'.next → SemE P o s v h' → StepS P o s v h'

theorem StepS.next {o : Oper} {s : St} {v : Value} {h' : Hp} (e : StepS P o s v h') : s.h.next ≤ h'.next := by
  cases e with
  | T _ h _ => rw [h]; exact Nat.le_refl _
  | R _ h _ => rw [h]; exact Nat.le_refl _
  | N _ _ h _ => rw [h]; simp
  | E _ h _ => exact h

theorem stepO_ok {call : Caller} {o : Oper} {s : St} {v : Value} {h' : Hp} (e : stepO P call o s = some (v, h')) : o.op.operands.toList.all okOperand = true := by
  unfold stepO at e
  split at e
  · assumption
  · cases e

/-- ONE OPERATION: what the evaluator gives, the model gives. -/
theorem stepS_of {call : Caller} (hc : CallOk P call) {o : Oper} {s : St} {v : Value} {h' : Hp} (e : stepO P call o s = some (v, h')) : StepS P o s v h' := by
  unfold stepO at e
  split at e
  · rename_i hok
    split at e
    · rename_i hkind
      cases h : stepT P (evA s.tmps) o with
      | none => simp [h] at e
      | some u =>
        simp [h] at e; obtain ⟨rfl, rfl⟩ := e
        exact .T hkind rfl fun {μ ρ'} w hr => simT h hr w
    · rename_i hkind
      cases h : stepR P (evA s.tmps) o s.h with
      | none => simp [h] at e
      | some u =>
        simp [h] at e; obtain ⟨rfl, rfl⟩ := e
        exact .R hkind rfl fun {μ base w ρ'} hr hrel => simR hkind h hr hrel
    · rename_i hkind
      cases h : stepN P (evA s.tmps) o with
      | none => simp [h] at e
      | some u =>
        obtain ⟨x, f⟩ := u
        simp [h] at e; obtain ⟨rfl, rfl⟩ := e
        exact .N hkind rfl rfl fun {μ base w ρ' g} hr hrel {b} hb => simNz hkind h hr hrel hb
    · rename_i hkind
      refine .E (by unfold isEff; rw [hkind]) (stepE_next e) fun {μ base w a K Q} hr hrel hf hk => ?_
      unfold Oper.wp
      obtain ⟨w1, μ1, h1⟩ := simE e hr hrel (fun hlt => hf s.h.next (Nat.le_refl _) hlt)
      rcases h1 with ⟨h1, h2, rfl⟩ | ⟨v', w', μ', h1, h2⟩
      · rw [h2]; exact hk _ w1 μ1 h1
      · rw [h2]; exact hk v' w' μ' h1
    · rename_i hkind
      split at e
      · rename_i c hop
        split at e
        · rename_i g args hcal
          refine .E (by unfold isEff; rw [hkind]) (hc.next e) fun {μ base w a K Q} hr hrel hf hk => ?_
          unfold Oper.wp
          have hex : ∃ args', (execOp a.eval o).run P w = (callFunc g args').run P w ∧ All2 (VR μ) args args'.toList := by
            unfold callee at hcal
            split at hcal
            · rename_i f hcf
              split at hcal
              · rename_i g0 first captured hfv
                simp only [Option.some.injEq, Prod.mk.injEq] at hcal
                obtain ⟨rfl, rfl⟩ := hcal
                have hmf : f ∈ o.op.operands.toList := by rw [hop]; simp [Op.operands, Call.operands, hcf]
                have hfr := hr f hmf
                rw [hfv] at hfr
                obtain ⟨first', cap', hfe, h1, h2⟩ := hfr.inv_func rfl
                refine ⟨first' ++ c.args.map a.eval ++ cap', ?_, ?_⟩
                · unfold execOp
                  simp only [hop, resolve, hcf, Deferred.ofValue, hfe, Sem.run_bind, Sem.run_pure, Result.andThen_ok, invoke]
                · rw [Array.toList_append, Array.toList_append, Array.toList_map]
                  refine ((h1.mono fun _ _ _ r => .zero r).append (list_rel fun x hx => hr x ?_)).append (h2.mono fun _ _ _ r => .zero r)
                  rw [hop]; simp [Op.operands, Call.operands]; exact .inr (by simpa using hx)
              · cases hcal
            · cases hcal
          obtain ⟨args', h1, h2⟩ := hex
          rw [h1]
          rcases hc.does e h2 hrel hf with ⟨v', w', h3, μ', h4⟩ | ⟨h3, h4⟩
          · rw [h3]; exact hk v' w' μ' h4
          · rw [h3]
            simp only [Oper.upon]
            exact h4.mono fun en w' ⟨v', he, μ', ho⟩ => by subst he; exact hk v' w' μ' ho
        · cases e
      · cases e
    · cases e
  · cases e

theorem runOps_next {call : Caller} (hc : CallOk P call) {ops : Array Oper} : ∀ {l : List Oper} {s s' : St}, runOps P call ops l s = some s' → s.h.next ≤ s'.h.next
  | [], s, s', e => by simp only [runOps, Option.some.injEq] at e; subst e; exact Nat.le_refl _
  | o :: l, s, s', e => by
    unfold runOps at e
    split at e
    · split at e
      · split at e
        · rename_i v h hs
          have h1 := (stepS_of hc hs).next
          have h2 := runOps_next hc e
          exact Nat.le_trans h1 h2
        · cases e
      · exact runOps_next hc (s := ⟨s.put o.dst undef, s.h⟩) e
    · cases e

variable {μ : Mu} {base : Nat} {w : World}

theorem StepS.sound {o : Oper} {s : St} {v : Value} {h' : Hp} (e : StepS P o s v h') {a : Act} (hr : OpR μ (evA s.tmps) a.eval o.op.operands.toList)
    (hrel : Rel μ base s.h.get w) (hf : Fresh μ s.h.next h'.next) {K : Act → World → Prop} {Q : Exit → Act → World → Prop}
    (hk : ∀ v' w' μ', Out μ base s.h w v h' v' w' μ' → K (a.put o.dst v') w') : o.wp P a w K Q := by
  cases e with
  | T hkind hh hs =>
    subst hh
    obtain ⟨v', h1, h2⟩ := hs w hr
    unfold Oper.wp; rw [h1]
    exact hk v' w μ (Out.same h2 (Sim.refl hrel) rfl (.refl μ _))
  | R hkind hh hs =>
    subst hh
    obtain ⟨v', h1, h2⟩ := hs hr hrel
    unfold Oper.wp; rw [h1]
    exact hk v' w μ (Out.same h2 (Sim.refl hrel) rfl (.refl μ _))
  | N hkind hv hh hs =>
    subst hh; subst hv
    obtain ⟨v', w', p, z, h1, h2, h3⟩ := hs hr hrel (hf s.h.next (Nat.le_refl _) (by simp))
    unfold Oper.wp; rw [h1]
    exact hk v' w' _ ⟨h2, by rw [get_push_fun]; exact h3, by simp, fun b hb => dom_upd (p := p) rfl b hb, .push μ s.h _⟩
  | E _ _ hs => exact hs hr hrel hf hk

/-- What states are like behind some code. -/
structure StOut (μ : Mu) (base : Nat) (s : St) (w : World) (s' : St) (a' : Act) (w' : World) (μ' : Mu) : Prop where
  tmps : TR μ' s'.tmps a'.tmps
  defers : a'.defers = []
  sim : Sim μ base s.h.get w μ' s'.h.get w'
  dom : ∀ b, μ' b ≠ μ b → s.h.next ≤ b ∧ b < s'.h.next
  keep : Keeps μ s.h s'.h

theorem StOut.trans {s s1 s2 : St} {w1 w2 : World} {a1 a2 : Act} {μ1 μ2 : Mu} (h : StOut μ base s w s1 a1 w1 μ1) (k : StOut μ1 base s1 w1 s2 a2 w2 μ2) (h1 : s.h.next ≤ s1.h.next) (h2 : s1.h.next ≤ s2.h.next) :
    StOut μ base s w s2 a2 w2 μ2 :=
  ⟨k.tmps, k.defers, h.sim.trans k.sim, fun b hb => by
    by_cases e : μ2 b = μ1 b
    · have := h.dom b (by rw [← e]; exact hb); omega
    · have := k.dom b e; omega,
   fun c hc hn => by
    have hn1 : μ1 c = none := by
      by_cases e : μ1 c = μ c
      · rw [e]; exact hn
      · have := h.dom c e; omega
    rcases k.keep c (by omega) hn1 with e | e
    · rw [e]; exact h.keep c hc hn
    · exact .inr e⟩
theorem StOut.fresh {s s1 : St} {w1 : World} {a1 : Act} {μ1 : Mu} {hi : Nat} (h : StOut μ base s w s1 a1 w1 μ1) (hf : Fresh μ s.h.next hi) (hle : s.h.next ≤ s1.h.next) : Fresh μ1 s1.h.next hi := by
  intro b h1 h2
  by_cases e : μ1 b = μ b
  · rw [e]; exact hf b (by omega) h2
  · have := h.dom b e; omega
theorem Fresh.left {lo mid hi : Nat} (h : Fresh μ lo hi) (hm : mid ≤ hi) : Fresh μ lo mid := fun b h1 h2 => h b h1 (by omega)

theorem put_defers (a : Act) (dst : Option Tmp) (v : Value) : (a.put dst v).defers = a.defers := by cases dst <;> rfl

theorem ops_sound {call : Caller} (hc : CallOk P call) {ops : Array Oper} {Q : Exit → Act → World → Prop} : ∀ {l : List Oper} {s s' : St}, runOps P call ops l s = some s' →
    ∀ {μ : Mu} {a : Act} {w : World}, TR μ s.tmps a.tmps → a.defers = [] → Rel μ base s.h.get w → Fresh μ s.h.next s'.h.next →
    (∀ a' w' μ', StOut μ base s w s' a' w' μ' → Q .normal a' w') → wpList P ops Q l a w
  | [], s, s', e, μ, a, w, ht, hd, hrel, hf, hq => by
    simp only [runOps, Option.some.injEq] at e; subst e
    exact hq a w μ ⟨ht, hd, Sim.refl hrel, fun b hb => absurd rfl hb, .refl μ _⟩
  | o :: l, s, s', e, μ, a, w, ht, hd, hrel, hf, hq => by
    unfold runOps at e
    unfold wpList
    split at e
    case isFalse => cases e
    rename_i hlive
    rw [wanted_rel ht ops o hlive]
    split at e
    · rename_i hw
      rw [if_pos hw]
      split at e
      · rename_i v h hs
        have h1 := (stepS_of hc hs).next
        have h2 := runOps_next hc e
        left
        refine (stepS_of hc hs).sound (opR_of ht (stepO_ok hs)) hrel (hf.left h2) fun v' w' μ' ho => ?_
        have so : StOut μ base s w ⟨s.put o.dst v, h⟩ (a.put o.dst v') w' μ' := ⟨TR.put (s := s) (ht.mono ho.sim.le) o.dst ho.val, by rw [put_defers]; exact hd, ho.sim, ho.dom, ho.keep⟩
        exact ops_sound hc e so.tmps so.defers ho.sim.rel (so.fresh hf h1) fun a2 w2 μ2 h3 => hq a2 w2 μ2 (so.trans h3 h1 h2)
      · cases e
    · rename_i hw
      rw [if_neg hw]
      have h2 := runOps_next hc e
      have so : StOut μ base s w ⟨s.put o.dst undef, s.h⟩ (a.put o.dst undef) w μ := ⟨TR.put (s := s) ht o.dst (.undef μ), by rw [put_defers]; exact hd, Sim.refl hrel, fun b hb => absurd rfl hb, .refl μ _⟩
      exact ops_sound hc e so.tmps so.defers hrel hf fun a2 w2 μ2 h3 => hq a2 w2 μ2 (so.trans h3 (Nat.le_refl _) h2)
end
end Go.Abs
