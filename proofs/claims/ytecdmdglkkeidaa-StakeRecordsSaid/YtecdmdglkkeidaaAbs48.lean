/-
  ANSWERS THAT ARE TOLD: a function's text that comes to a value that is told, as a contract of both kinds.
-/
import Derived.Test.YtecdmdglkkeidaaAbs43
namespace Go.Abs
open Go

theorem law_tell {P : Program} (hP : ProgOk P) {C : Con} (hC : ConOk P C) {call : Caller} (hcall : CallOk P call) {f : FuncId} {fn : Func} {c : Code} (hf : P.funcs[f]? = some fn) (hb : fn.body = some c) {n : Nat} {LS : Loops} {args : List Value} {h0 : Hp} {u : Value} {R : Value → Prop} (hR : ∀ {μ : Mu} {v v' : Value}, R v → VR μ v v' → v' = u)
    (hro : ∀ b x, h0.get b = some x → ownB x = false) (e0 : lawV std P C call n LS fn c args h0 fun v _ => R v)
    {W : World} {args' : Array Value} {μ : Mu} (hl : All2 (VR μ) args args'.toList) (hrel : Rel μ W.heap.size h0.get W) (hfree : ∀ b, h0.next ≤ b → μ b = none) :
    Calls P f args' W fun en W' => RowKit.Below W.heap.size W W' ∧ en = .returned u := by
  have e : runV std P C call n LS h0.next c ⟨args ++ List.replicate (fn.ntmps - args.length) undef, h0⟩ (resK P fn fun v _ => R v) := by rw [lawV_eq]; exact e0
  have htr : TR μ (args ++ List.replicate (fn.ntmps - args.length) undef) (args' ++ Array.replicate (fn.ntmps - args'.size) undef) := by
    unfold TR
    rw [Array.toList_append, Array.toList_replicate]
    have : args.length = args'.size := by rw [hl.1, Array.length_toList]
    rw [this]
    exact hl.append (All2.replicate _ (.undef μ))
  refine calls_of_wp hf hb ?_
  refine (runV_ok hP hC hcall n).1 LS h0.next c _ _ (hP.code hf hb) e h0.next (Nat.le_refl _) (Nat.le_refl _) ⟨htr, rfl, hrel, hfree⟩ fun ex s' a' w' μ' hK hk hp => ?_
  have key : ∀ {v : Value}, resultsA P fn s' = some v → R v → (results fn a'.tmps).run P w' = .ok u w' := by
    intro v hres hv
    obtain ⟨v', h2, h3⟩ := resultsA_run hres hp.cfg.tmps hp.cfg.rel
    rw [hR hv h3] at h2
    exact h2
  have hbel : RowKit.Below W.heap.size W w' := ⟨hp.fr.os, hp.fr.tape, hp.fr.output, hp.fr.size, fun k hk => hp.fr.block k hk fun b p x _ hx ho => by rw [hro b x hx] at ho; cases ho⟩
  unfold resK at hK
  split at hK
  · split at hK
    · rename_i v hres
      exact ⟨hp.cfg.defers, _, key hres hK, hbel, rfl⟩
    · exact hK.elim
  · split at hK
    · rename_i v hres
      exact ⟨hp.cfg.defers, _, key hres hK, hbel, rfl⟩
    · exact hK.elim
  · exact hK.elim

/-- What a call answers, of such arguments. -/
def LVal (P : Program) (f : FuncId) (args : List Value) (v : Value) : Prop := ∀ {μ : Mu} {w : World} {args' : Array Value}, All2 (VR μ) args args'.toList →
  ∃ v', (∀ μ', VR μ' v v') ∧ (callFunc f args').run P w = .ok (.enter f args') w ∧ Calls P f args' w fun en w' => RowKit.Below w.heap.size w w' ∧ en = .returned v'
theorem LVal.call {P : Program} {f : FuncId} {args : List Value} {v : Value} (h : LVal P f args v) {hp : Hp} {K : Value → Hp → Prop} (hK : K v hp) : CallSem P f args hp K := by
  intro μ base w args' hl hrel hfree
  obtain ⟨v', h3, h4, h5⟩ := h hl (w := w)
  refine .inr ⟨h4, h5.mono ?_⟩
  rintro en w' ⟨h1, rfl⟩
  exact ⟨v', rfl, v, hp, μ, hK, cout_below hrel hfree h1 (h3 μ)⟩
theorem LVal.draw {P : Program} {f : FuncId} {args : List Value} {v : Value} (h : LVal P f args v) {hp : Hp} {K : Value → Hp → Prop} (hK : K v hp) : FunSem P f args hp K := by
  refine ⟨v, hp, hK, Nat.le_refl _, fun {μ base w args'} hl hrel _ => .inr ?_⟩
  obtain ⟨v', h3, h4, h5⟩ := h hl (w := w)
  refine ⟨h4, h5.mono ?_⟩
  rintro en w' ⟨hb, rfl⟩
  exact ⟨v', rfl, μ, .same (h3 μ) (sim_same hrel hb) rfl (.refl μ _)⟩
/-- A triple of a told kind. -/
def Three (a b : Int) (v : Value) : Prop :=
  match v with
  | .tuple xs => match xs.toList with
    | [x, y, z] => den x = .int .i64 a ∧ den y = .int .i64 b ∧ z = .bool true
    | _ => False
  | _ => False
theorem three_told {a b : Int} {μ : Mu} {v v' : Value} (h : Three a b v) (hv : VR μ v v') : v' = .tuple #[.int .i64 a, .int .i64 b, .bool true] := by
  unfold Three at h
  split at h
  case h_2 => exact h.elim
  rename_i xs
  split at h
  case h_2 => exact h.elim
  rename_i x y z hxs
  obtain ⟨h1, h2, h3⟩ := h
  cases hv with
  | dead => simp at hxs
  | a hv => cases hv with | one hv => cases hv with | zero hv => cases hv with | plain hp => simp [plain1] at hp
  | tup hv =>
    rename_i ys
    rw [hxs] at hv
    obtain ⟨v1, l1, e1, r1, hv⟩ := hv.inv_cons
    obtain ⟨v2, l2, e2, r2, hv⟩ := hv.inv_cons
    obtain ⟨v3, l3, e3, r3, hv⟩ := hv.inv_cons
    have e4 := hv.inv_nil
    have q1 := (VR.a r1).den
    have q2 := (VR.a r2).den
    have q3 := VR.a r3
    rw [h1] at q1; rw [h2] at q2; rw [h3] at q3
    rw [q1.inv_int] at e1; rw [q2.inv_int] at e2; rw [q3.inv_bool] at e3
    subst e4; subst e3; subst e2
    exact congrArg Value.tuple (Array.toList_inj.1 e1)
end Go.Abs
