/-
  A LAW BY THE EVALUATOR THAT ASKS: contracts side by side; Within; closed calls; a law's whole text.
-/
import Derived.Test.YtddejgkfgnokgaaFw4
section
namespace Go.Abs
open Go

/-- Contracts side by side. -/
def conL (l : List (FuncId × (List Value → Hp → (Value → Hp → Prop) → Prop))) : Con := ⟨fun f => (l.find? fun x => x.1 == f).map (·.2), fun _ _ => none, fun _ => none, fun _ => false, fun _ => none, fun _ => false⟩
theorem conL_ok {P : Program} {l : List (FuncId × (List Value → Hp → (Value → Hp → Prop) → Prop))} (h : ∀ x ∈ l, ∀ args h K, x.2 args h K → CallSem P x.1 args h K) : ConOk P (conL l) := by
  refine ⟨fun f g hg args hp K e => ?_, fun f g h => (by cases h), fun f g h => (by cases h)⟩
  intro μ base w args' hl hrel hfree
  unfold conL at hg
  cases hf : l.find? fun x => x.1 == f with
  | none => simp [hf] at hg
  | some x =>
    simp [hf] at hg; subst hg
    have h1 := List.find?_some hf
    have h2 := List.mem_of_find?_eq_some hf
    have : x.1 = f := by simpa using h1
    subst this
    exact h x h2 args hp K e hl hrel hfree

theorem tell_ok {P : Program} {C : Con} (h : ConOk P C) (l : List (Nat × BinOp × Bool)) : ConOk P (C.tell l) := ⟨h.con, h.draws, h.pures⟩
theorem letters_ok {P : Program} {C : Con} (h : ConOk P C) (f : Oper → Bool) : ConOk P (C.letters f) := ⟨h.con, h.draws, h.pures⟩
theorem tellO_ok {P : Program} {C : Con} (h : ConOk P C) (l : Oper → (Operand → Value) → Option Bool) : ConOk P (C.tellO l) := ⟨h.con, h.draws, h.pures⟩
theorem tellG_ok {P : Program} {C : Con} (h : ConOk P C) (l : List (Nat × BinOp × Bool × Bool)) : ConOk P (C.tellG l) := ⟨h.con, h.draws, h.pures⟩
/-- Operations of which rows are made. -/
def Con.rowsAt (C : Con) (f : Oper → Bool) : Con := { C with rows := f }
theorem rowsAt_ok {P : Program} {C : Con} (h : ConOk P C) (f : Oper → Bool) : ConOk P (C.rowsAt f) := ⟨h.con, h.draws, h.pures⟩
/-- Contracts for calls inside regions whose order is open. -/
def Con.draw (C : Con) (l : List (FuncId × (List Value → Hp → (Value → Hp → Prop) → Prop))) : Con := { C with draws := fun f => (l.find? fun x => x.1 == f).map (·.2) }
theorem draw_ok {P : Program} {C : Con} (hC : ConOk P C) {l : List (FuncId × (List Value → Hp → (Value → Hp → Prop) → Prop))} (h : ∀ x ∈ l, ∀ args h K, x.2 args h K → FunSem P x.1 args h K) : ConOk P (C.draw l) := by
  refine ⟨hC.con, fun f g hg args hp K e => ?_, hC.pures⟩
  simp only [Con.draw] at hg
  cases hf : l.find? fun x => x.1 == f with
  | none => simp [hf] at hg
  | some x =>
    simp [hf] at hg; subst hg
    have h1 := List.find?_some hf
    have h2 := List.mem_of_find?_eq_some hf
    have : x.1 = f := by simpa using h1
    subst this
    exact h x h2 args hp K e
def noCon : Con := ⟨fun _ => none, fun _ _ => none, fun _ => none, fun _ => false, fun _ => none, fun _ => false⟩
theorem noCon_ok (P : Program) : ConOk P noCon := ⟨fun f g h => (by cases h), fun f g h => (by cases h), fun f g h => (by cases h)⟩
def noCall : Caller := fun _ _ _ => none
theorem noCall_ok (P : Program) : CallOk P noCall := ⟨fun {f args h v h'} e => (by cases e), fun {f args h v h'} e => (by cases e)⟩

/-- A call that changes nothing of the caller's. -/
theorem cout_below {μ : Mu} {base : Nat} {h : Hp} {w w' : World} {v v' : Value} (hrel : Rel μ base h.get w) (hfree : ∀ b, h.next ≤ b → μ b = none) (hb : RowKit.Below w.heap.size w w') (hv : VR μ v v') : COut μ base h w v h v' w' μ := by
  have hblk : ∀ c, c < w.heap.size → w'.heap[c]? = w.heap[c]? := fun c hc => hb.block c hc
  refine ⟨hv, ⟨Nat.le_trans hrel.size hb.size, fun b p x h1 h2 => ?_, hrel.inj, fun c i a hc => ⟨let ⟨arr, e, fr, h1, h2⟩ := (hrel.frz c i a hc).1; ⟨arr, e, fr, (hblk c (Array.getElem?_eq_some_iff.1 h1).1).trans h1, h2⟩, (hrel.frz c i a hc).2⟩⟩, hfree, ⟨hb.os, hb.tape, hb.output, hb.size, fun c hc _ => hblk c hc⟩, fun b p x h1 h2 => .inr ⟨b, p, x, h1, h2, id, rfl⟩, fun _ _ => rfl, Nat.le_refl _, fun _ _ _ h => h, fun _ _ _ h => .inl h⟩
  have := hrel.blk b p x h1 h2
  exact this.keep (Mu.le_refl μ) (hblk p.c this.lt)

/-- A function without arguments whose answer is known. -/
def closedC (v : Value) (args : List Value) (h : Hp) (K : Value → Hp → Prop) : Prop :=
  match args with
  | [] => K v h
  | _ => False

/-- A LAW's TEXT. -/
theorem law_calls {P : Program} (hP : ProgOk P) {C : Con} (hC : ConOk P C) {call : Caller} (hcall : CallOk P call) {f : FuncId} {fn : Func} {c : Code} (hf : P.funcs[f]? = some fn) (hb : fn.body = some c) {n : Nat} {LS : Loops} {args : List Value} {h0 : Hp}
    (hro : ∀ b x, h0.get b = some x → ownB x = false) (e : runV std P C call n LS h0.next c ⟨args ++ List.replicate (fn.ntmps - args.length) undef, h0⟩ (resK P fn fun v _ => v = .bool true))
    {W : World} {args' : Array Value} {μ : Mu} (hl : All2 (VR μ) args args'.toList) (hrel : Rel μ W.heap.size h0.get W) (hfree : ∀ b, h0.next ≤ b → μ b = none) :
    Calls P f args' W fun en W' => RowKit.Below W.heap.size W W' ∧ en = .returned (.bool true) := by
  have htr : TR μ (args ++ List.replicate (fn.ntmps - args.length) undef) (args' ++ Array.replicate (fn.ntmps - args'.size) undef) := by
    unfold TR
    rw [Array.toList_append, Array.toList_replicate]
    have : args.length = args'.size := by rw [hl.1, Array.length_toList]
    rw [this]
    exact hl.append (All2.replicate _ (.undef μ))
  refine calls_of_wp hf hb ?_
  refine (runV_ok hP hC hcall n).1 LS h0.next c _ _ (hP.code hf hb) e h0.next (Nat.le_refl _) (Nat.le_refl _) ⟨htr, rfl, hrel, hfree⟩ fun ex s' a' w' μ' hK hk hp => ?_
  have key : ∀ {v : Value}, resultsA P fn s' = some v → v = .bool true → (results fn a'.tmps).run P w' = .ok (.bool true) w' := by
    intro v hres hv
    obtain ⟨v', h2, h3⟩ := resultsA_run hres hp.cfg.tmps hp.cfg.rel
    subst hv
    rw [h3.inv_bool] at h2
    exact h2
  have hbel : RowKit.Below W.heap.size W w' := ⟨hp.fr.os, hp.fr.tape, hp.fr.output, hp.fr.size, fun k hk => hp.fr.block k hk fun b p x _ hx ho => by rw [hro b x hx] at ho; cases ho⟩
  unfold resK at hK
  split at hK
  · split at hK
    · rename_i v hres
      exact ⟨hp.cfg.defers, _, key hres hK, hbel, rfl⟩
    · exact hK.elim
  · split at hK
    · rename_i v hres
      exact ⟨hp.cfg.defers, _, key hres hK, hbel, rfl⟩
    · exact hK.elim
  · exact hK.elim
end Go.Abs

namespace Go.Proofs.Ytddejgkfgnokgaa
open Go.RowKit Go.Abs

/-- Calls in regions whose order is open: by the text. -/
noncomputable def inCall (n : Nat) : Caller := callN vbeq Try.prog X0 n
theorem inCall_ok (n : Nat) : CallOk Try.prog (inCall n) := callWith_ok Try.progOk (knownOk_none _) (run_sound Try.progOk (knownOk_none _) vbeq_eq n)

theorem closedC_ok {X : Known} (hX : KnownOk Try.prog X) {n : Nat} {f : FuncId} {fn : Func} {c : Code} {v : Value} (hf : Try.prog.funcs[f]? = some fn) (hb : fn.body = some c) (hp : plain1 v = true)
    (hr : (callN vbeq Try.prog X n f [] H0).map (·.1) = some v) : ∀ args h K, closedC v args h K → CallSem Try.prog f args h K := by
  intro args h K e μ base w args' hl hrel hfree
  unfold closedC at e
  split at e
  case h_2 => exact e.elim
  have : args' = #[] := Array.toList_eq_nil_iff.1 hl.inv_nil
  subst this
  have hn := Try.progOk.name hf
  refine .inr ⟨by simp [callFunc, hf, hn, hb], ?_⟩
  refine (calls_plain hX hf hb hp hr w).mono ?_
  rintro en w' ⟨h1, rfl⟩
  exact ⟨v, rfl, v, h, μ, e, cout_below hrel hfree h1 (.plain1 hp)⟩

/-- Within: a number in its bounds, that leaves what the number left. -/
def withinC (S : Sy) (args : List Value) (h : Hp) (K : Value → Hp → Prop) : Prop :=
  match args with
  | [a, .int .i64 lo, .int .i64 hi] => match den a with
    | .int .i64 n => if -1000000000000 ≤ lo ∧ lo ≤ hi ∧ hi ≤ 2000000000000 then
        inI S n ∧ ∀ r : Int, (S.ile lo r ∧ S.ile r hi) → S.ieq r (S.add lo (S.emod n (hi - lo + 1))) → K (mk (.int .i64 r)) h
      else False
    | _ => False
  | _ => False

theorem withinC_ok : ∀ args h K, withinC std args h K → CallSem Try.prog 16 args h K := by
  intro args h K e μ base w args' hl hrel hfree
  unfold withinC at e
  split at e
  case h_2 => exact e.elim
  rename_i a lo hi
  split at e
  case h_2 => exact e.elim
  rename_i n hn
  split at e
  case isFalse => exact e.elim
  rename_i hc
  obtain ⟨a3, a4, a5⟩ := hc
  obtain ⟨⟨a1, a2⟩, hK⟩ := e
  have a1 : -9223372036854775808 ≤ n := a1
  have a2 : n ≤ 9223372036854775807 := a2
  obtain ⟨v1, l1, e1, r1, hl⟩ := hl.inv_cons
  obtain ⟨v2, l2, e2, r2, hl⟩ := hl.inv_cons
  obtain ⟨v3, l3, e3, r3, hl⟩ := hl.inv_cons
  have e4 := hl.inv_nil
  have r1 := r1.den
  rw [hn] at r1
  rw [r1.inv_int] at e1; rw [r2.inv_int] at e2; rw [r3.inv_int] at e3
  subst e4; subst e3; subst e2
  have : args' = #[.int .i64 n, .int .i64 lo, .int .i64 hi] := Array.toList_inj.1 e1
  subst this
  have hname : (callFunc 16 #[.int .i64 n, .int .i64 lo, .int .i64 hi]).run Try.prog w = .ok (.enter 16 #[.int .i64 n, .int .i64 lo, .int .i64 hi]) w := by
    have hn := Try.progOk.name Try.func16
    obtain ⟨c, hb⟩ : ∃ c, Try.f16.body = some c := ⟨_, rfl⟩
    simp [callFunc, Try.func16, hn, hb]
  refine .inr ⟨hname, (within_walk n lo hi w ⟨a1, a2⟩ a3 a4 a5).mono ?_⟩
  rintro en w' ⟨rfl, rfl⟩
  have h5 := Int.emod_nonneg n (by omega : hi - lo + 1 ≠ 0)
  have h6 := Int.emod_lt_of_pos n (by omega : 0 < hi - lo + 1)
  have hv : VR μ (mk (.int .i64 (lo + n % (hi - lo + 1)))) (.int .i64 (lo + n % (hi - lo + 1))) := .zero (.mark (.plain rfl) rfl)
  exact ⟨_, rfl, _, h, μ, hK _ ⟨show lo ≤ lo + n % (hi - lo + 1) by omega, show lo + n % (hi - lo + 1) ≤ hi by omega⟩ rfl, hv, hrel, hfree, Fr.refl _ _ _, fun b p x h1 h2 => .inr ⟨b, p, x, h1, h2, id, rfl⟩, fun _ _ => rfl, Nat.le_refl _, fun _ _ _ h => h, fun _ _ _ h => .inl h⟩
end Go.Proofs.Ytddejgkfgnokgaa
end
section
namespace Go.Abs
open Go
def enumK (K : Int → Prop) : Nat → Int → Prop
  | 0, _ => True
  | n + 1, lo => K lo ∧ enumK K n (lo + 1)
theorem enumK_get {K : Int → Prop} : ∀ {n : Nat} {lo : Int}, enumK K n lo → ∀ r, lo ≤ r → r < lo + n → K r
  | 0, lo, _, r, h1, h2 => by omega
  | n + 1, lo, ⟨h0, h⟩, r, h1, h2 => by
    by_cases e : r = lo
    · subst e; exact h0
    · exact enumK_get h r (by omega) (by omega)
end Go.Abs
namespace Go.Proofs.Ytddejgkfgnokgaa
open Go.RowKit Go.Abs

def withinE (S : Sy) (args : List Value) (h : Hp) (K : Value → Hp → Prop) : Prop :=
  match args with
  | [.int .i64 n, .int .i64 lo, .int .i64 hi] =>
      if -9223372036854775808 ≤ n ∧ n ≤ 9223372036854775807 ∧ -1000000000000 ≤ lo ∧ lo ≤ hi ∧ hi ≤ 2000000000000 then K (.int .i64 (lo + n % (hi - lo + 1))) h else False
  | [a, .int .i64 lo, .int .i64 hi] => match den a with
    | .int .i64 n => if -1000000000000 ≤ lo ∧ lo ≤ hi ∧ hi ≤ 2000000000000 then
        if hi - lo < 8 then inI S n ∧ enumK (fun r => K (.int .i64 r) h) (hi - lo + 1).toNat lo
        else inI S n ∧ ∀ r : Int, (S.ile lo r ∧ S.ile r hi) → S.ieq r (S.add lo (S.emod n (hi - lo + 1))) → K (mk (.int .i64 r)) h
      else False
    | _ => False
  | _ => False

theorem within_sem {n lo hi : Int} (hn : -9223372036854775808 ≤ n ∧ n ≤ 9223372036854775807) (a3 : -1000000000000 ≤ lo) (a4 : lo ≤ hi) (a5 : hi ≤ 2000000000000) {a : Value} (had : den a = .int .i64 n) {v : Value} (hd : ∀ μ, VR μ v (.int .i64 (lo + n % (hi - lo + 1)))) {h : Hp} {K : Value → Hp → Prop} (hK : K v h) : CallSem Try.prog 16 [a, .int .i64 lo, .int .i64 hi] h K := by
  intro μ base w args' hl hrel hfree
  obtain ⟨v1, l1, e1, r1, hl⟩ := hl.inv_cons
  obtain ⟨v2, l2, e2, r2, hl⟩ := hl.inv_cons
  obtain ⟨v3, l3, e3, r3, hl⟩ := hl.inv_cons
  have e4 := hl.inv_nil
  have r1 := r1.den
  rw [had] at r1
  rw [r1.inv_int] at e1; rw [r2.inv_int] at e2; rw [r3.inv_int] at e3
  subst e4; subst e3; subst e2
  have : args' = #[.int .i64 n, .int .i64 lo, .int .i64 hi] := Array.toList_inj.1 e1
  subst this
  have hname : (callFunc 16 #[.int .i64 n, .int .i64 lo, .int .i64 hi]).run Try.prog w = .ok (.enter 16 #[.int .i64 n, .int .i64 lo, .int .i64 hi]) w := by
    have hn := Try.progOk.name Try.func16
    obtain ⟨c, hb⟩ : ∃ c, Try.f16.body = some c := ⟨_, rfl⟩
    simp [callFunc, Try.func16, hn, hb]
  refine .inr ⟨hname, (within_walk n lo hi w hn a3 a4 a5).mono ?_⟩
  rintro en w' ⟨rfl, rfl⟩
  exact ⟨_, rfl, _, h, μ, hK, hd μ, hrel, hfree, Fr.refl _ _ _, fun b p x h1 h2 => .inr ⟨b, p, x, h1, h2, id, rfl⟩, fun _ _ => rfl, Nat.le_refl _, fun _ _ _ h => h, fun _ _ _ h => .inl h⟩

theorem withinE_ok : ∀ args h K, withinE std args h K → CallSem Try.prog 16 args h K := by
  intro args h K e
  unfold withinE at e
  split at e
  · rename_i n lo hi
    split at e
    case isFalse => exact e.elim
    rename_i hc
    exact within_sem ⟨hc.1, hc.2.1⟩ hc.2.2.1 hc.2.2.2.1 hc.2.2.2.2 rfl (fun μ => .plain1 rfl) e
  · rename_i a lo hi _
    split at e
    case h_2 => exact e.elim
    rename_i n hn
    split at e
    case isFalse => exact e.elim
    rename_i hc
    obtain ⟨a3, a4, a5⟩ := hc
    have h5 := Int.emod_nonneg n (by omega : hi - lo + 1 ≠ 0)
    have h6 := Int.emod_lt_of_pos n (by omega : 0 < hi - lo + 1)
    split at e
    · obtain ⟨⟨a1, a2⟩, hK⟩ := e
      have hk : K (.int .i64 (lo + n % (hi - lo + 1))) h := enumK_get (K := fun r => K (.int .i64 r) h) hK _ (by omega) (by omega)
      have ht : CallSem Try.prog 16 [a, .int .i64 lo, .int .i64 hi] h K := @within_sem n lo hi ⟨a1, a2⟩ a3 a4 a5 a hn (.int .i64 (lo + n % (hi - lo + 1))) (fun μ => .plain1 rfl) h K hk
      exact @ht
    · obtain ⟨⟨a1, a2⟩, hK⟩ := e
      have hk : K (mk (.int .i64 (lo + n % (hi - lo + 1)))) h := (hK _ ⟨show lo ≤ lo + n % (hi - lo + 1) by omega, show lo + n % (hi - lo + 1) ≤ hi by omega⟩ rfl)
      have ht : CallSem Try.prog 16 [a, .int .i64 lo, .int .i64 hi] h K := @within_sem n lo hi ⟨a1, a2⟩ a3 a4 a5 a hn (mk (.int .i64 (lo + n % (hi - lo + 1)))) (fun μ => .zero (.mark (.plain rfl) rfl)) h K hk
      exact @ht
  · exact e.elim
end Go.Proofs.Ytddejgkfgnokgaa
end
