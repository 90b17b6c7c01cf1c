/-
  FUNCTIONS TOLD AS LEAN FUNCTIONS: what such a function answers depends on its arguments alone; both as a contract and inside regions whose order is open. Within, of any number.
-/
import Derived.Test.YtecdmdglkkeidaaAbs41
import Derived.Test.YtecdmdglkkeidaaAbs22
namespace Go.Abs
open Go

/-- A function's text that comes to a value that is told. -/
theorem law_val {P : Program} (hP : ProgOk P) {C : Con} (hC : ConOk P C) {call : Caller} (hcall : CallOk P call) {f : FuncId} {fn : Func} {c : Code} (hf : P.funcs[f]? = some fn) (hb : fn.body = some c) {n : Nat} {LS : Loops} {args : List Value} {h0 : Hp} {u : Value} (hu : plain1 u = true)
    (hro : ∀ b x, h0.get b = some x → ownB x = false) (e0 : lawV std P C call n LS fn c args h0 fun v _ => den v = u)
    {W : World} {args' : Array Value} {μ : Mu} (hl : All2 (VR μ) args args'.toList) (hrel : Rel μ W.heap.size h0.get W) (hfree : ∀ b, h0.next ≤ b → μ b = none) :
    Calls P f args' W fun en W' => RowKit.Below W.heap.size W W' ∧ en = .returned u := by
  have e : runV std P C call n LS h0.next c ⟨args ++ List.replicate (fn.ntmps - args.length) undef, h0⟩ (resK P fn fun v _ => den v = u) := by rw [lawV_eq]; exact e0
  have htr : TR μ (args ++ List.replicate (fn.ntmps - args.length) undef) (args' ++ Array.replicate (fn.ntmps - args'.size) undef) := by
    unfold TR
    rw [Array.toList_append, Array.toList_replicate]
    have : args.length = args'.size := by rw [hl.1, Array.length_toList]
    rw [this]
    exact hl.append (All2.replicate _ (.undef μ))
  refine calls_of_wp hf hb ?_
  refine (runV_ok hP hC hcall n).1 LS h0.next c _ _ (hP.code hf hb) e h0.next (Nat.le_refl _) (Nat.le_refl _) ⟨htr, rfl, hrel, hfree⟩ fun ex s' a' w' μ' hK hk hp => ?_
  have key : ∀ {v : Value}, resultsA P fn s' = some v → den v = u → (results fn a'.tmps).run P w' = .ok u w' := by
    intro v hres hv
    obtain ⟨v', h2, h3⟩ := resultsA_run hres hp.cfg.tmps hp.cfg.rel
    have h4 := h3.den
    rw [hv] at h4
    rw [vr_plain_eq h4 hu] at h2
    exact h2
  have hbel : RowKit.Below W.heap.size W w' := ⟨hp.fr.os, hp.fr.tape, hp.fr.output, hp.fr.size, fun k hk => hp.fr.block k hk fun b p x _ hx ho => by rw [hro b x hx] at ho; cases ho⟩
  unfold resK at hK
  split at hK
  · split at hK
    · rename_i v hres
      exact ⟨hp.cfg.defers, _, key hres hK, hbel, rfl⟩
    · exact hK.elim
  · split at hK
    · rename_i v hres
      exact ⟨hp.cfg.defers, _, key hres hK, hbel, rfl⟩
    · exact hK.elim
  · exact hK.elim

/-- A function told as a Lean function. -/
abbrev LFun := List Value → Option Value
def LFunOk (P : Program) (f : FuncId) (g : LFun) : Prop := ∀ args v, g args = some v → ∀ {μ : Mu} {w : World} {args' : Array Value}, All2 (VR μ) args args'.toList →
  ∃ v', (∀ μ', VR μ' v v') ∧ (callFunc f args').run P w = .ok (.enter f args') w ∧ Calls P f args' w fun en w' => RowKit.Below w.heap.size w w' ∧ en = .returned v'
def knownL (l : List (FuncId × LFun)) : Known := fun f => (l.find? fun x => x.1 == f).map fun x args h => (x.2 args).map fun v => (v, h)
theorem knownL_ok {P : Program} {l : List (FuncId × LFun)} (h : ∀ x ∈ l, LFunOk P x.1 x.2) : KnownOk P (knownL l) := by
  intro f g hg args hp v hp' e
  unfold knownL at hg
  cases hf : l.find? fun x => x.1 == f with
  | none => simp [hf] at hg
  | some x =>
    simp [hf] at hg; subst hg
    have h1 := List.find?_some hf
    have h2 := List.mem_of_find?_eq_some hf
    have : x.1 = f := by simpa using h1
    subst this
    cases hv : x.2 args with
    | none => simp [hv] at e
    | some u =>
      simp [hv] at e
      obtain ⟨rfl, rfl⟩ := e
      refine ⟨Nat.le_refl _, fun {μ base w args'} hl hr _ => .inr ?_⟩
      obtain ⟨v', h3, h4, h5⟩ := h x h2 args u hv hl (w := w)
      refine ⟨h4, h5.mono ?_⟩
      rintro en w' ⟨hb, rfl⟩
      exact ⟨v', rfl, μ, .same (h3 μ) (sim_same hr hb) rfl (.refl μ _)⟩
def lfunC (g : LFun) (args : List Value) (h : Hp) (K : Value → Hp → Prop) : Prop :=
  match g args with
  | some v => K v h
  | none => False
theorem lfunC_ok {P : Program} {f : FuncId} {g : LFun} (hg : LFunOk P f g) : ∀ args h K, lfunC g args h K → CallSem P f args h K := by
  intro args h K e μ base w args' hl hrel hfree
  unfold lfunC at e
  split at e
  case h_2 => exact e.elim
  rename_i v hv
  obtain ⟨v', h3, h4, h5⟩ := hg args v hv hl (w := w)
  refine .inr ⟨h4, h5.mono ?_⟩
  rintro en w' ⟨h1, rfl⟩
  exact ⟨v', rfl, v, h, μ, e, cout_below hrel hfree h1 (h3 μ)⟩
end Go.Abs

namespace Go.Proofs.Ytecdmdglkkeidaa
open Go.RowKit Go.Abs
theorem enters_name {f : FuncId} {fn : Func} {c : Code} (hf : Try.prog.funcs[f]? = some fn) (hb : fn.body = some c) (args' : Array Value) (w : World) : (callFunc f args').run Try.prog w = .ok (.enter f args') w := by
  have hn := Try.progOk.name hf
  simp [callFunc, hf, hn, hb]
set_option maxHeartbeats 400000 in
theorem within_any (n lo hi : Int) (w : World) (h1 : -1000000000000 ≤ lo) (h2 : lo ≤ hi) (h3 : hi ≤ 2000000000000) :
    Calls Try.prog 15 #[.int .i64 n, .int .i64 lo, .int .i64 hi] w fun e w' => e = .returned (.int .i64 (lo + n % (hi - lo + 1))) ∧ w' = w := by
  have ht := tmod_cases (n := n) (d := hi - lo + 1) (by omega)
  have h5 := Int.emod_nonneg n (by omega : hi - lo + 1 ≠ 0)
  have h6 := Int.emod_lt_of_pos n (by omega : 0 < hi - lo + 1)
  go_enter Try.func15, Try.ntmps15
  go_wp2
  · rename_i hneg
    go_ret
    refine ⟨?_, rfl⟩
    show Ending.returned (Value.int IntKind.i64 (lo + (n.tmod (hi - lo + 1) + hi - lo + 1))) = _
    congr 2; omega
  · rename_i hneg
    go_ret
    refine ⟨?_, rfl⟩
    show Ending.returned (Value.int IntKind.i64 (lo + n.tmod (hi - lo + 1))) = _
    congr 2; omega
/-- Within as a Lean function. -/
def withinF (S : Sy) : LFun := fun args =>
  match args with
  | [a, .int .i64 lo, .int .i64 hi] => if -1000000000000 ≤ lo ∧ lo ≤ hi ∧ hi ≤ 2000000000000 then match a with
    | .int .i64 n => some (.int .i64 (lo + n % (hi - lo + 1)))
    | a => match den a with
      | .int .i64 n => some (mk (.int .i64 (S.add lo (S.emod n (hi - lo + 1)))))
      | _ => none
    else none
  | _ => none
theorem withinF_args {μ : Mu} {a : Value} {n lo hi : Int} {args' : Array Value} (had : den a = .int .i64 n) (hl : All2 (VR μ) [a, .int .i64 lo, .int .i64 hi] args'.toList) : args' = #[.int .i64 n, .int .i64 lo, .int .i64 hi] := by
  obtain ⟨v1, l1, e1, r1, hl⟩ := hl.inv_cons
  obtain ⟨v2, l2, e2, r2, hl⟩ := hl.inv_cons
  obtain ⟨v3, l3, e3, r3, hl⟩ := hl.inv_cons
  have e4 := hl.inv_nil
  have r1 := r1.den
  rw [had] at r1
  rw [r1.inv_int] at e1; rw [r2.inv_int] at e2; rw [r3.inv_int] at e3
  subst e4; subst e3; subst e2
  exact Array.toList_inj.1 e1
theorem withinF_ok : LFunOk Try.prog 15 (withinF std) := by
  intro args v e μ w args' hl
  obtain ⟨c, hb⟩ : ∃ c, Try.f15.body = some c := ⟨_, rfl⟩
  unfold withinF at e
  split at e
  case h_2 => cases e
  rename_i a lo hi
  split at e
  case isFalse => cases e
  rename_i hc
  have fin : ∀ {n : Int}, den a = .int .i64 n → (∀ μ', VR μ' v (.int .i64 (lo + n % (hi - lo + 1)))) → ∃ v', (∀ μ', VR μ' v v') ∧ (callFunc 15 args').run Try.prog w = .ok (.enter 15 args') w ∧ Calls Try.prog 15 args' w fun en w' => Below w.heap.size w w' ∧ en = .returned v' := by
    intro n hd hv
    have := withinF_args hd hl
    subst this
    refine ⟨_, hv, enters_name Try.func15 hb _ w, (within_any n lo hi w hc.1 hc.2.1 hc.2.2).mono ?_⟩
    rintro en w' ⟨rfl, rfl⟩
    exact ⟨Below.refl _ _, rfl⟩
  split at e
  · rename_i n
    simp only [Option.some.injEq] at e; subst e
    exact fin rfl fun μ' => .plain1 rfl
  · split at e
    case h_2 => cases e
    rename_i n hd
    simp only [Option.some.injEq] at e; subst e
    exact fin hd fun μ' => .zero (.mark (.plain rfl) rfl)
/-- Within, number by number. -/
def withinU (S : Sy) (args : List Value) (h : Hp) (K : Value → Hp → Prop) : Prop :=
  match args with
  | [a, .int .i64 lo, .int .i64 hi] => match den a with
    | .int .i64 n => if -1000000000000 ≤ lo ∧ lo ≤ hi ∧ hi ≤ 2000000000000 then enumK (fun r => S.ieq r (S.add lo (S.emod n (hi - lo + 1))) → K (.int .i64 r) h) (hi - lo + 1).toNat lo else False
    | _ => False
  | _ => False
theorem withinU_ok : ∀ args h K, withinU std args h K → CallSem Try.prog 15 args h K := by
  intro args h K e
  unfold withinU at e
  split at e
  case h_2 => exact e.elim
  rename_i a lo hi
  split at e
  case h_2 => exact e.elim
  rename_i n hd
  split at e
  case isFalse => exact e.elim
  rename_i hc
  have h5 := Int.emod_nonneg n (by omega : hi - lo + 1 ≠ 0)
  have h6 := Int.emod_lt_of_pos n (by omega : 0 < hi - lo + 1)
  have hk : K (.int .i64 (lo + n % (hi - lo + 1))) h := enumK_get (K := fun r => std.ieq r (std.add lo (std.emod n (hi - lo + 1))) → K (.int .i64 r) h) e _ (by omega) (by omega) rfl
  intro μ base w args' hl hrel hfree
  obtain ⟨c, hb⟩ : ∃ c, Try.f15.body = some c := ⟨_, rfl⟩
  have := withinF_args hd hl
  subst this
  refine .inr ⟨enters_name Try.func15 hb _ w, (within_any n lo hi w hc.1 hc.2.1 hc.2.2).mono ?_⟩
  rintro en w' ⟨rfl, rfl⟩
  exact ⟨_, rfl, _, h, μ, hk, cout_below hrel hfree (Below.refl _ _) (.plain1 rfl)⟩
/-- Calls in regions whose order is open, with functions that are told. -/
noncomputable def inCallL (l : List (FuncId × LFun)) (n : Nat) : Caller := callF vbeq Try.prog (knownL l) n
theorem inCallL_ok {l : List (FuncId × LFun)} (h : ∀ x ∈ l, LFunOk Try.prog x.1 x.2) (n : Nat) : CallOk Try.prog (inCallL l n) := by
  unfold inCallL; rw [← callF_eq]
  exact callWith_ok Try.progOk (knownL_ok h) (run_sound Try.progOk (knownL_ok h) vbeq_eq n)
end Go.Proofs.Ytecdmdglkkeidaa
