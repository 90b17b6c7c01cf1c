/-
  CONTRACTS OF SEVERAL OUTCOMES: what a function looks at, and the shapes it may leave.
-/
import Derived.Test.YtecdmdglkkeidaaAbs40
namespace Go.Abs
open Go

noncomputable section
structure FIn where
  D : Type
  sh : Shape
  rho : List Value → Hp → Rho
  fills : D → List Filler
  pre : D → Prop
structure FOut (D : Type) where
  pre : D → Prop
  R : Type
  res : List SA
  oblocks : List (Option SB)
  orho : List Value → Hp → Rho
  ofills : R → List Filler
  post : D → R → Prop
def FOut.spec (I : FIn) (O : FOut I.D) : FSpec := ⟨I.D, I.sh, I.rho, I.fills, fun d => I.pre d ∧ O.pre d, O.R, O.res, O.oblocks, O.orho, O.ofills, O.post⟩
def outsK (I : FIn) (args : List Value) (h : Hp) (K : Value → Hp → Prop) (d : I.D) : List (FOut I.D) → Prop
  | [] => True
  | O :: l => match l with
    | [] => O.pre d → ∀ r, O.post d r → (O.spec I).leave h (I.rho args h) r K
    | _ => (O.pre d → ∀ r, O.post d r → (O.spec I).leave h (I.rho args h) r K) ∧ outsK I args h K d l
def fcon (I : FIn) (Os : List (FOut I.D)) (args : List Value) (h : Hp) (K : Value → Hp → Prop) : Prop :=
  match I.sh.mat true (I.rho args h) ⟨args, h⟩ with
  | some fs => if nodupB (I.rho args h) && (I.rho args h).all fun b => decide (b < h.next) then ∃ d, I.fills d = fs ∧ I.pre d ∧ outsK I args h K d Os else False
  | none => False
end
theorem outsK_mem {I : FIn} {args : List Value} {h : Hp} {K : Value → Hp → Prop} {d : I.D} : ∀ {Os : List (FOut I.D)}, outsK I args h K d Os → ∀ O ∈ Os, O.pre d → ∀ r, O.post d r → (O.spec I).leave h (I.rho args h) r K
  | [], _, O, hO => by cases hO
  | [O'], e, O, hO => by rw [List.mem_singleton.1 hO]; exact e
  | O' :: O'' :: l, e, O, hO => by
    unfold outsK at e
    rcases List.mem_cons.1 hO with rfl | hO
    · exact e.1
    · exact outsK_mem e.2 O hO
theorem fcon_ok {P : Program} {f : FuncId} {I : FIn} {Os : List (FOut I.D)} (hone : ∀ d, I.pre d → ∃ O ∈ Os, O.pre d) (hO : ∀ O ∈ Os, ∀ args h K, (O.spec I).con args h K → CallSem P f args h K) : ∀ args h K, fcon I Os args h K → CallSem P f args h K := by
  intro args h K e
  unfold fcon at e
  split at e
  case h_2 => exact e.elim
  rename_i fs hm
  split at e
  case isFalse => exact e.elim
  rename_i hc
  obtain ⟨d, hd, hpre, hK⟩ := e
  obtain ⟨O, hmem, hOd⟩ := hone d hpre
  refine hO O hmem args h K ?_
  unfold FSpec.con
  show (match I.sh.mat true (I.rho args h) ⟨args, h⟩ with
    | some fs => if nodupB (I.rho args h) && (I.rho args h).all fun b => decide (b < h.next) then ∃ d, I.fills d = fs ∧ (I.pre d ∧ O.pre d) ∧ ∀ r, O.post d r → (O.spec I).leave h (I.rho args h) r K else False
    | none => False)
  rw [hm]
  simp only [hc, if_true]
  exact ⟨d, hd, ⟨hpre, hOd⟩, outsK_mem hK O hmem hOd⟩

/-- A function's text against one outcome, by the fast twin. -/
theorem FSpec.okF {P : Program} (hP : ProgOk P) {C : Con} (hC : ConOk P C) {call : Caller} (hcall : CallOk P call) (F : FSpec) {fi : FuncId} {fn : Func} {c : Code} (hf : P.funcs[fi]? = some fn) (hb : fn.body = some c) {n : Nat} {LS : F.D → Loops}
    (hlen : F.sh.blocks.length ≤ F.oblocks.length) (hall : F.sh.blocks.all Option.isSome = true)
    (hbody : ∀ d, F.pre d → ∃ s0, F.sh.fill (F.fills d) = some s0 ∧ s0.h.next = F.sh.blocks.length ∧ lawV std P C call n (LS d) fn c s0.tmps s0.h (F.done d)) :
    ∀ args h K, F.con args h K → CallSem P fi args h K :=
  FSpec.ok hP hC hcall F hf hb (n := n) (LS := LS) hlen hall fun d hd s0 hs => by
    obtain ⟨s1, h1, h2, h3⟩ := hbody d hd
    rw [hs] at h1
    simp only [Option.some.injEq] at h1
    subst h1
    rw [← h2, lawV_eq]
    exact h3
end Go.Abs
