/-
  A REGION WHOSE ORDER IS OPEN: whatever the order, what the text's order gives.
-/
import Derived.Test.YtolkoacllaaceaaAbs14
namespace Go.Abs
open Go

section
variable {P : Program} {ops : Array Oper}

/-- The states and values of a run in the text's order; D: what is known besides. -/
inductive Run (P : Program) (D : Oper → St → Value → Hp → Prop) (ops : Array Oper) : List Oper → St → List St → List Value → Prop
  | nil {s : St} : Run P D ops [] s [s] []
  | step {o : Oper} {l : List Oper} {s : St} {v : Value} {h : Hp} {tr : List St} {vs : List Value} : liveG ops o s.tmps = true → wantedA ops o s.tmps = true → o.op.operands.toList.all okOperand = true → StepS P o s v h → D o s v h →
      Run P D ops l ⟨s.put o.dst v, h⟩ tr vs → Run P D ops (o :: l) s (s :: tr) (v :: vs)
  | skip {o : Oper} {l : List Oper} {s : St} {tr : List St} {vs : List Value} : liveG ops o s.tmps = true → wantedA ops o s.tmps = false → Run P D ops l ⟨s.put o.dst undef, s.h⟩ tr vs → Run P D ops (o :: l) s (s :: tr) (undef :: vs)

theorem run_of {call : Caller} (hc : CallOk P call) : ∀ {l : List Oper} {s : St} {tr : List St}, runOpsT P call ops l s = some tr → ∃ vs, Run P (fun o s v h => stepO P call o s = some (v, h)) ops l s tr vs
  | [], s, tr, e => by simp only [runOpsT, Option.some.injEq] at e; subst e; exact ⟨_, .nil⟩
  | o :: l, s, tr, e => by
    unfold runOpsT at e
    split at e
    case isFalse => cases e
    rename_i hlive
    split at e
    · rename_i hw
      split at e
      · rename_i v h hs
        split at e
        · rename_i t ht
          simp only [Option.some.injEq] at e; subst e
          obtain ⟨vs, hr⟩ := run_of hc ht
          exact ⟨_, .step hlive hw (stepO_ok hs) (stepS_of hc hs) hs hr⟩
        · cases e
      · cases e
    · rename_i hw
      split at e
      · rename_i t ht
        simp only [Option.some.injEq] at e; subst e
        obtain ⟨vs, hr⟩ := run_of hc ht
        exact ⟨_, .skip hlive (by simpa using hw) hr⟩
      · cases e

variable {D : Oper → St → Value → Hp → Prop}

theorem trace_of {l : List Oper} {s : St} {tr : List St} {vs : List Value} (e : Run P D ops l s tr vs) : tr.length = l.length + 1 ∧ tr[0]? = some s ∧
    ∀ k o, l[k]? = some o → ∃ sk sk1 v, tr[k]? = some sk ∧ tr[k + 1]? = some sk1 ∧ vs[k]? = some v ∧ liveG ops o sk.tmps = true ∧
      ((wantedA ops o sk.tmps = true ∧ o.op.operands.toList.all okOperand = true ∧ StepS P o sk v sk1.h ∧ D o sk v sk1.h) ∨ (wantedA ops o sk.tmps = false ∧ v = undef ∧ sk1.h = sk.h)) ∧ sk1.tmps = sk.put o.dst v := by
  induction e with
  | nil => exact ⟨rfl, rfl, fun k o h => by simp at h⟩
  | @step o l s v h tr vs hl hw hok hs hD ht ih =>
    obtain ⟨h1, h2, h3⟩ := ih
    refine ⟨by simp [h1], rfl, fun k o' hk => ?_⟩
    cases k with
    | zero =>
      simp at hk; subst hk
      exact ⟨s, ⟨s.put o.dst v, h⟩, v, rfl, by simpa using h2, rfl, hl, .inl ⟨hw, hok, hs, hD⟩, rfl⟩
    | succ k => exact h3 k o' (by simpa using hk)
  | @skip o l s tr vs hl hw ht ih =>
    obtain ⟨h1, h2, h3⟩ := ih
    refine ⟨by simp [h1], rfl, fun k o' hk => ?_⟩
    cases k with
    | zero =>
      simp at hk; subst hk
      exact ⟨s, ⟨s.put o.dst undef, s.h⟩, undef, rfl, by simpa using h2, rfl, hl, .inr ⟨hw, rfl, rfl⟩, rfl⟩
    | succ k => exact h3 k o' (by simpa using hk)

/-- A run in the text's order, by places. -/
structure Trace (P : Program) (ops : Array Oper) (st : Nat → St) (val : Nat → Value) : Prop where
  live : ∀ {k o}, ops[k]? = some o → liveG ops o (st k).tmps = true
  step : ∀ {k o}, ops[k]? = some o →
    ((wantedA ops o (st k).tmps = true ∧ o.op.operands.toList.all okOperand = true ∧ StepS P o (st k) (val k) (st (k + 1)).h) ∨ (wantedA ops o (st k).tmps = false ∧ val k = undef ∧ (st (k + 1)).h = (st k).h)) ∧
    (st (k + 1)).tmps = (st k).put o.dst (val k)

theorem trace_fun {s : St} {tr : List St} {vs : List Value} (e : Run P D ops ops.toList s tr vs) : ∃ (st : Nat → St) (val : Nat → Value), Trace P ops st val ∧ st 0 = s ∧ (∀ k, k ≤ ops.size → tr[k]? = some (st k)) ∧
    (∀ k, k < ops.size → vs[k]? = some (val k)) ∧ ∀ k o, ops[k]? = some o → wantedA ops o (st k).tmps = true → D o (st k) (val k) (st (k + 1)).h := by
  obtain ⟨h1, h2, h3⟩ := trace_of e
  have hl : tr.length = ops.size + 1 := by simpa using h1
  let st : Nat → St := fun k => tr.getD k s
  let val : Nat → Value := fun k => vs.getD k undef
  have hst : ∀ k x, tr[k]? = some x → st k = x := fun k x hx => by simp [st, hx]
  have hval : ∀ k x, vs[k]? = some x → val k = x := fun k x hx => by simp [val, hx]
  have key : ∀ k o, ops[k]? = some o → vs[k]? = some (val k) ∧ liveG ops o (st k).tmps = true ∧
      ((wantedA ops o (st k).tmps = true ∧ o.op.operands.toList.all okOperand = true ∧ StepS P o (st k) (val k) (st (k + 1)).h ∧ D o (st k) (val k) (st (k + 1)).h) ∨ (wantedA ops o (st k).tmps = false ∧ val k = undef ∧ (st (k + 1)).h = (st k).h)) ∧
      (st (k + 1)).tmps = (st k).put o.dst (val k) := by
    intro k o hk
    obtain ⟨sk, sk1, v, h4, h5, h6, h7, h8, h9⟩ := h3 k o (by rw [Array.getElem?_toList]; exact hk)
    rw [hst k sk h4, hst (k + 1) sk1 h5, hval k v h6]
    exact ⟨h6, h7, h8, h9⟩
  refine ⟨st, val, ⟨fun {k o} hk => (key k o hk).2.1, fun {k o} hk => ?_⟩, hst 0 s h2, fun k hk => ?_, fun k hk => (key k _ (Array.getElem?_eq_getElem hk)).1, fun k o hk hw => ?_⟩
  · obtain ⟨_, _, h4, h5⟩ := key k o hk
    refine ⟨?_, h5⟩
    rcases h4 with ⟨a, b, c, _⟩ | h4
    · exact .inl ⟨a, b, c⟩
    · exact .inr h4
  · have hlt : k < tr.length := by omega
    show tr[k]? = some (tr.getD k s)
    rw [List.getD_eq_getElem?_getD, List.getElem?_eq_getElem hlt]; rfl
  · rcases (key k o hk).2.2.1 with ⟨_, _, _, h4⟩ | ⟨h4, _⟩
    · exact h4
    · rw [hw] at h4; cases h4

variable {st : Nat → St} {val : Nat → Value}

theorem Trace.next1 (ht : Trace P ops st val) {k : Nat} (hk : k < ops.size) : (st k).h.next ≤ (st (k + 1)).h.next := by
  rcases (ht.step (Array.getElem?_eq_getElem hk)).1 with ⟨_, _, h⟩ | ⟨_, _, h⟩
  · exact h.next
  · rw [h]; exact Nat.le_refl _
theorem Trace.next (ht : Trace P ops st val) {i j : Nat} (hij : i ≤ j) (hj : j ≤ ops.size) : (st i).h.next ≤ (st j).h.next := by
  induction j with
  | zero => have : i = 0 := by omega
            subst this; exact Nat.le_refl _
  | succ j ih =>
    by_cases e : i = j + 1
    · subst e; exact Nat.le_refl _
    · exact Nat.le_trans (ih (by omega) (by omega)) (ht.next1 (by omega))

/-- An operation that is no effect leaves blocks alone. -/
theorem Trace.quiet (ht : Trace P ops st val) {k : Nat} {o : Oper} (hk : ops[k]? = some o) (he : isEff P o = false) {b : Nat} (hb : b < (st k).h.next) :
    (st (k + 1)).h.get b = (st k).h.get b := by
  rcases (ht.step hk).1 with ⟨_, _, h⟩ | ⟨_, _, h⟩
  · cases h with
    | T _ h _ => rw [h]
    | R _ h _ => rw [h]
    | N _ _ h _ => rw [h, Hp.get_push, if_neg (by omega)]
    | E h _ _ => rw [he] at h; cases h
  · rw [h]

/-- A block that is there stays as long as only what is quiet, or keeps it, comes. -/
theorem Trace.stays (ht : Trace P ops st val) {b : Nat} {i : Nat} : ∀ j, i ≤ j → j ≤ ops.size → b < (st i).h.next →
    (∀ k o, i ≤ k → k < j → ops[k]? = some o → isEff P o = true → (st (k + 1)).h.get b = (st k).h.get b) → (st j).h.get b = (st i).h.get b := by
  intro j
  induction j with
  | zero => intro h _ _ _; have : i = 0 := by omega
            subst this; rfl
  | succ j ih =>
    intro h hj hb hk
    by_cases e : i = j + 1
    · subst e; rfl
    · have ih := ih (by omega) (by omega) hb (fun k o h1 h2 h3 h4 => hk k o h1 (by omega) h3 h4)
      rw [← ih]
      have ho := Array.getElem?_eq_getElem (xs := ops) (i := j) (by omega)
      cases he : isEff P ops[j] with
      | true => exact hk j _ (by omega) (by omega) ho he
      | false => exact ht.quiet ho he (Nat.lt_of_lt_of_le hb (ht.next (by omega) (by omega)))

/-- The same where it may go. -/
theorem Trace.goes (ht : Trace P ops st val) {b : Nat} {i : Nat} : ∀ j, i ≤ j → j ≤ ops.size → b < (st i).h.next →
    (∀ k o, i ≤ k → k < j → ops[k]? = some o → isEff P o = true → (st (k + 1)).h.get b = (st k).h.get b ∨ (st (k + 1)).h.get b = none) → (st j).h.get b = (st i).h.get b ∨ (st j).h.get b = none := by
  intro j
  induction j with
  | zero => intro h _ _ _; have : i = 0 := by omega
            subst this; exact .inl rfl
  | succ j ih =>
    intro h hj hb hk
    by_cases e : i = j + 1
    · subst e; exact .inl rfl
    · have ih := ih (by omega) (by omega) hb (fun k o h1 h2 h3 h4 => hk k o h1 (by omega) h3 h4)
      have ho := Array.getElem?_eq_getElem (xs := ops) (i := j) (by omega)
      have hstep : (st (j + 1)).h.get b = (st j).h.get b ∨ (st (j + 1)).h.get b = none := by
        cases he : isEff P ops[j] with
        | true => exact hk j _ (by omega) (by omega) ho he
        | false => exact .inl (ht.quiet ho he (Nat.lt_of_lt_of_le hb (ht.next (by omega) (by omega))))
      rcases hstep with e1 | e1
      · rw [e1]; exact ih
      · exact .inr e1

/-- The slots in the text's order. -/
theorem Trace.tmps (ht : Trace P ops st val) : ∀ k, k ≤ ops.size → (st k).tmps = tmL ops (st 0).tmps val (fun _ => true) k
  | 0, _ => rfl
  | k + 1, hk => by
    have ho := Array.getElem?_eq_getElem (xs := ops) (i := k) (by omega)
    rw [(ht.step ho).2]
    have ih := ht.tmps k (by omega)
    unfold tmL St.put
    rw [if_pos rfl, ho, ← ih]
    rfl

/-- Places, blocks: every effect ahead of the place has been done, or came before the block was there; every effect that has been done stands ahead of it. -/
def At (P : Program) (ops : Array Oper) (st : Nat → St) (L : Nat → Bool) (x b : Nat) : Prop :=
  (∀ j o, ops[j]? = some o → isEff P o = true → L j = true → j < x) ∧
  (∀ j o, ops[j]? = some o → isEff P o = true → j < x → L j = true ∨ (st (j + 1)).h.next ≤ b)

/-- In the middle of a region. -/
structure Inv (P : Program) (ops : Array Oper) (st : Nat → St) (val : Nat → Value) (μ0 : Mu) (base : Nat) (w0 : World) (L : Nat → Bool) (μ : Mu) (a : Act) (w : World) (g : Gm) : Prop where
  down : ∀ j o e, L j = true → ops[j]? = some o → e ∈ o.after → Region.binds .any e = true → L e.on = true
  tmps : TR μ (tmL ops (st 0).tmps val L ops.size) a.tmps
  defers : a.defers = []
  sim : Sim μ0 base (st 0).h.get w0 μ g w
  dom : ∀ b, μ b ≠ μ0 b → ∃ i, i < ops.size ∧ L i = true ∧ (st i).h.next ≤ b ∧ b < (st (i + 1)).h.next
  H : ∀ b p x blk, μ b = some p → x ≤ ops.size → At P ops st L x b → (st x).h.get b = some blk → g b = some blk
  K : ∀ i j o, i < j → L i = false → ops[j]? = some o → isEff P o = true → L j = true → ∀ b, (st i).h.next ≤ b → b < (st (i + 1)).h.next → (st (j + 1)).h.get b = (st j).h.get b ∨ (st (j + 1)).h.get b = none
  K0 : ∀ j o, ops[j]? = some o → isEff P o = true → L j = true → ∀ b, b < (st 0).h.next → μ0 b = none → (st (j + 1)).h.get b = (st j).h.get b ∨ (st (j + 1)).h.get b = none

theorem Sim.less {μ μ' : Mu} {base : Nat} {g g' g'' : Gm} {w w' : World} (h : Sim μ base g w μ' g' w') (hl : ∀ b p x, μ' b = some p → g'' b = some x → g' b = some x) : Sim μ base g w μ' g'' w' :=
  ⟨h.le, h.rel.less hl, h.fr, fun b p x hb hx => h.own b p x hb (hl b p x hb hx), h.fz⟩

/-- A step of a part of the heap is a step of the heap. -/
theorem Sim.frame {μ μ' : Mu} {base : Nat} {g : Gm} {h h' : Hp} {w w' : World} (hr : Rel μ base g w) (hs : Sim μ base h.get w μ' h'.get w') (hsub : ∀ b p x, μ b = some p → h.get b = some x → g b = some x)
    (hn : h.next ≤ h'.next) (hd : ∀ b, μ' b ≠ μ b → h.next ≤ b ∧ b < h'.next) : Sim μ base g w μ' (fun b => if b < h'.next then h'.get b else g b) w' := by
  have old : ∀ b, h'.next ≤ b → μ' b = μ b := fun b hb => by
    by_cases e : μ' b = μ b
    · exact e
    · have := hd b e; omega
  -- a block of the frame lies in no block of the part
  have apart : ∀ b p x b' p' x', h'.next ≤ b → μ b = some p → g b = some x → μ' b' = some p' → h'.get b' = some x' → (ownB x = true ∨ ownB x' = true) → p.c ≠ p'.c := by
    intro b p x b' p' x' hb hp hx hp' hx' ho
    rcases hs.own b' p' x' hp' hx' with h1 | ⟨b0, p0, x0, h1, h2, h3, h4⟩
    · have := (hr.blk b p x hp hx).lt; omega
    · have hb0 : b0 < h.next := Hp.lt_of_get h2
      have hne : b ≠ b0 := by omega
      rw [← h4]
      rcases ho with ho | ho
      · exact hr.inj b b0 p p0 x x0 hp h1 hx (hsub _ _ _ h1 h2) hne ho
      · exact fun e => hr.inj b0 b p0 p x0 x h1 hp (hsub _ _ _ h1 h2) hx (fun e => hne e.symm) (h3 ho) e.symm
  refine ⟨hs.le, ⟨hs.rel.size, fun b p x hp hx => ?_, fun b b' p p' x x' hp hp' hx hx' hne ho => ?_, fun c i a hc => ⟨(hs.rel.frz c i a hc).1, fun b p x hp hx ho hcc => ?_⟩⟩, ⟨hs.fr.os, hs.fr.tape, hs.fr.output, hs.fr.size, fun c hc hno => ?_⟩, fun b p x hp hx => ?_, fun c i a hc => ?_⟩
  · split at hx
    · exact hs.rel.blk b p x hp hx
    · rename_i hlt
      have hp0 := hp
      rw [old b (by omega)] at hp0
      have hb := hr.blk b p x hp0 hx
      refine hb.keep hs.le (hs.fr.block p.c hb.lt fun b2 p2 x2 h1 h2 h3 => ?_)
      have : b2 < h.next := Hp.lt_of_get h2
      exact hr.inj b2 b p2 p x2 x h1 hp0 (hsub _ _ _ h1 h2) hx (by omega) h3
  · split at hx
    · split at hx'
      · exact hs.rel.inj b b' p p' x x' hp hp' hx hx' hne ho
      · rename_i h1 h2
        rw [old b' (by omega)] at hp'
        exact fun e => apart b' p' x' b p x (by omega) hp' hx' hp hx (.inr ho) e.symm
    · rename_i h1
      rw [old b (by omega)] at hp
      split at hx'
      · exact apart b p x b' p' x' (by omega) hp hx hp' hx' (.inl ho)
      · rw [old b' (by omega)] at hp'
        exact hr.inj b b' p p' x x' hp hp' hx hx' hne ho
  · split at hx
    · exact (hs.rel.frz c i a hc).2 b p x hp hx ho hcc
    · rw [old b (by omega)] at hp
      rcases hs.fz c i a hc with h1 | h1 | ⟨b0, p0, x0, h1, h2, _, h3⟩
      · exact (hr.frz c i a h1).2 b p x hp hx ho hcc
      · have := (hr.blk b p x hp hx).lt; omega
      · have : b0 < h.next := Hp.lt_of_get h2
        exact absurd (hcc.trans h3.symm) (hr.inj b b0 p p0 x x0 hp h1 hx (hsub _ _ _ h1 h2) (by omega) ho)
  · exact hs.fr.block c hc fun b p x h1 h2 h3 => hno b p x h1 (hsub _ _ _ h1 h2) h3
  · split at hx
    · rcases hs.own b p x hp hx with h1 | ⟨b0, p0, x0, h1, h2, h3, h4⟩
      · exact .inl h1
      · exact .inr ⟨b0, p0, x0, h1, hsub _ _ _ h1 h2, h3, h4⟩
    · rw [old b (by omega)] at hp
      exact .inr ⟨b, p, x, hp, hx, id, rfl⟩
  · rcases hs.fz c i a hc with h1 | h1 | ⟨b0, p0, x0, h1, h2, ho, h3⟩
    · exact .inl h1
    · exact .inr (.inl h1)
    · exact .inr (.inr ⟨b0, p0, x0, h1, hsub _ _ _ h1 h2, ho, h3⟩)

variable {μ0 : Mu} {base : Nat} {w0 : World} {L : Nat → Bool} {μ : Mu} {a : Act} {w : World} {g : Gm}

/-- Whatever comes before an operation that may come next has been done. -/
theorem Inv.preds (hro : ROk ops) (inv : Inv P ops st val μ0 base w0 L μ a w g) : ∀ (n : Nat) {i j : Nat} {o : Oper}, j < n → ops[j]? = some o → (∀ e ∈ o.after, Region.binds .any e = true → L e.on = true) →
    ordered (Region.before ops) i j = true → L i = true ∧ i < j := by
  intro n
  induction n with
  | zero => intro i j o h; omega
  | succ n ih =>
    intro i j o hn hj hready hord
    obtain ⟨e, he, hb, h1⟩ := ordered_edge hj (fun e he hb => hro.edge hj he hb) hord
    have hlt := hro.edge hj he hb
    rcases h1 with rfl | h1
    · exact ⟨hready e he hb, hlt⟩
    · have hjn := (Array.getElem?_eq_some_iff.1 hj).1
      have ho := Array.getElem?_eq_getElem (xs := ops) (i := e.on) (by omega)
      have hL := hready e he hb
      obtain ⟨h2, h3⟩ := ih (by omega) ho (fun e' he' hb' => inv.down e.on _ e' hL ho he' hb') h1
      exact ⟨h2, by omega⟩

theorem Inv.preds' (hro : ROk ops) (inv : Inv P ops st val μ0 base w0 L μ a w g) {i j : Nat} {o : Oper} (hj : ops[j]? = some o) (hL : L j = true) (hord : ordered (Region.before ops) i j = true) : L i = true ∧ i < j :=
  inv.preds hro (j + 1) (Nat.lt_succ_self j) hj (fun e he hb => inv.down j o e hL hj he hb) hord

/-- What an operation reads of its slots. -/
theorem Inv.slot (hro : ROk ops) (ht : Trace P ops st val) (inv : Inv P ops st val μ0 base w0 L μ a w g) {i : Nat} {o : Oper} (hi : ops[i]? = some o) (hL : L i = false)
    (hready : ∀ e ∈ o.after, Region.binds .any e = true → L e.on = true) {t : Tmp} (hn : t ∈ opNames o) : (tmL ops (st 0).tmps val L ops.size)[t]? = (st i).tmps[t]? := by
  have hil := (Array.getElem?_eq_some_iff.1 hi).1
  rw [ht.tmps i (by omega)]
  refine tmL_get ops (st 0).tmps val t ops.size i (fun k hk hd hLk => ?_) (fun k hk hd _ => ?_)
  · have hok := Array.getElem?_eq_getElem (xs := ops) hk
    rw [hok] at hd
    rcases temps_spec hro hok hi hd hn with e | h
    · subst e; rw [hL] at hLk; cases hLk
    · refine ⟨?_, rfl⟩
      rcases Nat.lt_or_ge k i with h1 | h1
      · exact h1
      · have hki : k ≠ i := fun e => by subst e; rw [hL] at hLk; cases hLk
        rw [Nat.min_eq_right (by omega), Nat.max_eq_left (by omega)] at h
        have := (inv.preds' hro hok hLk h).1
        rw [hL] at this; cases this
  · have hok := Array.getElem?_eq_getElem (xs := ops) (i := k) (by omega)
    rw [hok] at hd
    refine ⟨by omega, ?_⟩
    rcases temps_spec hro hok hi hd hn with e | h
    · omega
    · rw [Nat.min_eq_left (by omega), Nat.max_eq_right (by omega)] at h
      exact (inv.preds hro (i + 1) (Nat.lt_succ_self i) hi hready h).1

theorem getD_of {l l' : List Value} {t : Nat} (h : l[t]? = l'[t]?) : l.getD t Go.undef = l'.getD t Go.undef := by
  rw [List.getD_eq_getElem?_getD, List.getD_eq_getElem?_getD, h]

theorem Inv.operands (hro : ROk ops) (ht : Trace P ops st val) (inv : Inv P ops st val μ0 base w0 L μ a w g) {i : Nat} {o : Oper} (hi : ops[i]? = some o) (hL : L i = false)
    (hready : ∀ e ∈ o.after, Region.binds .any e = true → L e.on = true) (hok : o.op.operands.toList.all okOperand = true) : OpR μ (evA (st i).tmps) a.eval o.op.operands.toList := by
  intro x hx
  have h1 := eval_rel inv.tmps (List.all_eq_true.1 hok x hx)
  have h2 : evA (st i).tmps x = evA (tmL ops (st 0).tmps val L ops.size) x := by
    cases x with
    | tmp t =>
      have hn : t ∈ opNames o := by
        unfold opNames
        rw [List.mem_append]
        exact .inr (List.mem_filterMap.2 ⟨.tmp t, hx, rfl⟩)
      exact (getD_of (inv.slot hro ht hi hL hready hn)).symm
    | _ => rfl
  rw [h2]; exact h1

theorem Inv.wanted (hro : ROk ops) (hg : guardsOk ops = true) (ht : Trace P ops st val) (inv : Inv P ops st val μ0 base w0 L μ a w g) {i : Nat} {o : Oper} (hi : ops[i]? = some o)
    (hready : ∀ e ∈ o.after, Region.binds .any e = true → L e.on = true) : Region.wanted o (yielded ops a.tmps) = wantedA ops o (st i).tmps := by
  have hlive := ht.live hi
  have hsame : ∀ q want, o.guard = some (q, want) → ((ops[q]?).bind (·.dst)).bind ((tmL ops (st 0).tmps val L ops.size)[·]?) = ((ops[q]?).bind (·.dst)).bind ((st i).tmps[·]?) := by
    intro q want hgu
    have hil := (Array.getElem?_eq_some_iff.1 hi).1
    obtain ⟨e, he, rfl, hb⟩ := hro.guard hi hgu
    have hlt := hro.edge hi he hb
    have hLj := hready e he hb
    cases hd : (ops[e.on]?).bind (·.dst) with
    | none => rfl
    | some t =>
      have huniq : ∀ k, k < ops.size → (ops[k]?).bind (·.dst) = some t → k = e.on := by
        intro k hk hdk
        unfold guardsOk at hg
        have h1 := List.all_eq_true.1 hg o (Array.mem_toList_iff.2 (Array.mem_of_getElem? hi))
        rw [hgu] at h1
        simp only at h1
        have h2 := List.all_eq_true.1 h1 k (List.mem_range.2 hk)
        rw [hdk, hd] at h2
        simpa using h2
      have : (tmL ops (st 0).tmps val L ops.size)[t]? = (st i).tmps[t]? := by
        rw [ht.tmps i (by omega)]
        refine tmL_get ops (st 0).tmps val t ops.size i (fun k hk hdk hLk => ?_) (fun k hk hdk _ => ?_)
        · have := huniq k hk hdk; subst this; exact ⟨hlt, rfl⟩
        · have := huniq k (by omega) hdk; subst this; exact ⟨by omega, hLj⟩
      simp only [Option.bind_some, this]
  have hl2 : liveG ops o (tmL ops (st 0).tmps val L ops.size) = true := by
    unfold liveG at hlive ⊢
    cases hgu : o.guard with
    | none => rfl
    | some q =>
      obtain ⟨j, want⟩ := q
      rw [hgu] at hlive
      simp only at hlive ⊢
      rw [hsame j want hgu]; exact hlive
  rw [wanted_rel inv.tmps ops o hl2]
  unfold wantedA
  cases hgu : o.guard with
  | none => rfl
  | some q =>
    obtain ⟨j, want⟩ := q
    have hyi : yieldedA ops (tmL ops (st 0).tmps val L ops.size) j = yieldedA ops (st i).tmps j := by
      unfold yieldedA
      rw [hsame j want hgu]
    simp only [hyi]

theorem Inv.noLater (hro : ROk ops) (hchain : chained (Region.before ops) (effs P ops) = true) (inv : Inv P ops st val μ0 base w0 L μ a w g) {i j : Nat} {o o' : Oper} (hi : ops[i]? = some o) (hL : L i = false)
    (hei : isEff P o = true) (hj : ops[j]? = some o') (hej : isEff P o' = true) (hij : i < j) : L j = false := by
  cases h : L j with
  | false => rfl
  | true =>
    have hord := effs_ordered hchain hij ((mem_effs hi).2 hei) ((mem_effs hj).2 hej)
    have := (inv.preds' hro hj h hord).1
    rw [hL] at this; cases this
theorem Inv.earlier (hro : ROk ops) (hchain : chained (Region.before ops) (effs P ops) = true) (inv : Inv P ops st val μ0 base w0 L μ a w g) {i j : Nat} {o o' : Oper} (hi : ops[i]? = some o)
    (hready : ∀ e ∈ o.after, Region.binds .any e = true → L e.on = true) (hei : isEff P o = true) (hj : ops[j]? = some o') (hej : isEff P o' = true) (hij : j < i) : L j = true :=
  (inv.preds hro (i + 1) (Nat.lt_succ_self i) hi hready (effs_ordered hchain hij ((mem_effs hj).2 hej) ((mem_effs hi).2 hei))).1

/-- Ahead of an effect that may come next. -/
theorem Inv.atEff (hro : ROk ops) (hchain : chained (Region.before ops) (effs P ops) = true) (inv : Inv P ops st val μ0 base w0 L μ a w g) {i : Nat} {o : Oper} (hi : ops[i]? = some o) (hL : L i = false)
    (hready : ∀ e ∈ o.after, Region.binds .any e = true → L e.on = true) (hei : isEff P o = true) (b : Nat) : At P ops st L i b := by
  refine ⟨fun j o' hj he hLj => ?_, fun j o' hj he hji => .inl (inv.earlier hro hchain hi hready hei hj he hji)⟩
  rcases Nat.lt_or_ge j i with h | h
  · exact h
  · rcases Nat.eq_or_lt_of_le h with e | h
    · subst e; rw [hL] at hLj; cases hLj
    · rw [inv.noLater hro hchain hi hL hei hj he h] at hLj; cases hLj

/-- Behind an effect that has been done last, up to the next one, a block is what it was behind the effect. -/
theorem Inv.behind (hro : ROk ops) (ht : Trace P ops st val) (hchain : chained (Region.before ops) (effs P ops) = true) (inv : Inv P ops st val μ0 base w0 L μ a w g) {i : Nat} {o : Oper}
    (hi : ops[i]? = some o) (hL : L i = false) (hei : isEff P o = true) {L' : Nat → Bool} (hL' : ∀ k, L' k = (L k || k == i)) {x b : Nat} (hx : x ≤ ops.size) (hat : At P ops st L' x b) (hb : b < (st (i + 1)).h.next) :
    i < x ∧ (st x).h.get b = (st (i + 1)).h.get b := by
  have hix : i < x := hat.1 i o hi hei (by rw [hL']; simp)
  refine ⟨hix, ht.stays x (by omega) hx hb fun k o' h1 h2 h3 h4 => ?_⟩
  rcases hat.2 k o' h3 h4 h2 with h5 | h5
  · rw [hL'] at h5
    simp only [Bool.or_eq_true, beq_iff_eq] at h5
    rcases h5 with h5 | h5
    · rw [inv.noLater hro hchain hi hL hei h3 h4 (by omega)] at h5; cases h5
    · omega
  · have hkl := (Array.getElem?_eq_some_iff.1 h3).1
    have := ht.next (i := i + 1) (j := k + 1) (by omega) (by omega)
    omega

/-- An operation has been done. -/
theorem Inv.put (hro : ROk ops) (inv : Inv P ops st val μ0 base w0 L μ a w g) {i : Nat} {o : Oper} (hi : ops[i]? = some o) (hL : L i = false) {L' : Nat → Bool} (hL' : ∀ k, L' k = (L k || k == i))
    {μ' : Mu} (hle : Mu.le μ μ') {v' : Value} (hv : VR μ' (val i) v') : TR μ' (tmL ops (st 0).tmps val L' ops.size) (a.put o.dst v').tmps := by
  have hil := (Array.getElem?_eq_some_iff.1 hi).1
  rw [tmL_upd ops (st 0).tmps val hil hi hL hL' (fun k d hk hkn hLk hd hdk => ?_)]
  · cases hd : o.dst with
    | none => exact inv.tmps.mono hle
    | some d => exact (inv.tmps.mono hle).set d hv
  · have hok := Array.getElem?_eq_getElem (xs := ops) hkn
    rw [hok] at hdk
    have hn : d ∈ opNames ops[k] := by
      unfold opNames
      simp only [Option.bind_some] at hdk
      rw [hdk]; simp
    rcases temps_spec hro hi hok hd hn with e | h
    · omega
    · rw [Nat.min_eq_left (by omega), Nat.max_eq_right (by omega)] at h
      have := (inv.preds' hro hok hLk h).1
      rw [hL] at this; cases this

theorem down_upd (inv : Inv P ops st val μ0 base w0 L μ a w g) {i : Nat} {o : Oper} (hi : ops[i]? = some o) (hready : ∀ e ∈ o.after, Region.binds .any e = true → L e.on = true)
    {L' : Nat → Bool} (hL' : ∀ k, L' k = (L k || k == i)) : ∀ j o e, L' j = true → ops[j]? = some o → e ∈ o.after → Region.binds .any e = true → L' e.on = true := by
  intro j o' e hj ho he hb
  rw [hL'] at hj ⊢
  simp only [Bool.or_eq_true, beq_iff_eq] at hj ⊢
  rcases hj with hj | hj
  · exact .inl (inv.down j o' e hj ho he hb)
  · subst hj
    rw [hi] at ho; simp at ho; subst ho
    exact .inl (hready e he hb)

/-- An operation that leaves memory alone, or is passed over. -/
theorem Inv.still (hro : ROk ops) (ht : Trace P ops st val) (inv : Inv P ops st val μ0 base w0 L μ a w g) {i : Nat} {o : Oper} (hi : ops[i]? = some o) (hL : L i = false)
    (hready : ∀ e ∈ o.after, Region.binds .any e = true → L e.on = true) (hsame : (st (i + 1)).h = (st i).h) (hchain : chained (Region.before ops) (effs P ops) = true)
    {L' : Nat → Bool} (hL' : ∀ k, L' k = (L k || k == i)) {v' : Value} (hv : VR μ (val i) v') : Inv P ops st val μ0 base w0 L' μ (a.put o.dst v') w g := by
  refine ⟨down_upd inv hi hready hL', inv.put hro hi hL hL' (Mu.le_refl μ) hv, by rw [put_defers]; exact inv.defers, inv.sim, fun b hb => ?_, fun b p x blk hp hx hat hget => ?_, ?_, ?_⟩
  · obtain ⟨k, h1, h2, h3⟩ := inv.dom b hb
    exact ⟨k, h1, by rw [hL', h2]; rfl, h3⟩
  · cases hei : isEff P o with
    | false =>
      refine inv.H b p x blk hp hx ⟨fun j o' hj he hLj => hat.1 j o' hj he (by rw [hL', hLj]; rfl), fun j o' hj he hjx => ?_⟩ hget
      rcases hat.2 j o' hj he hjx with h | h
      · rw [hL'] at h
        simp only [Bool.or_eq_true, beq_iff_eq] at h
        rcases h with h | rfl
        · exact .inl h
        · rw [hi] at hj; simp at hj; subst hj; rw [hei] at he; cases he
      · exact .inr h
    | true =>
      by_cases hb : b < (st (i + 1)).h.next
      · obtain ⟨hix, h2⟩ := inv.behind hro ht hchain hi hL hei hL' hx hat hb
        rw [h2, hsame] at hget
        exact inv.H b p i blk hp (by omega) (inv.atEff hro hchain hi hL hready hei b) hget
      · refine inv.H b p x blk hp hx ⟨fun j o' hj he hLj => hat.1 j o' hj he (by rw [hL', hLj]; rfl), fun j o' hj he hjx => ?_⟩ hget
        rcases hat.2 j o' hj he hjx with h | h
        · rw [hL'] at h
          simp only [Bool.or_eq_true, beq_iff_eq] at h
          rcases h with h | rfl
          · exact .inl h
          · exact .inr (by omega)
        · exact .inr h
  · intro k j o' hkj hLk ho he hLj b h1 h2
    rw [hL'] at hLk hLj
    simp only [Bool.or_eq_false_iff, Bool.or_eq_true, beq_iff_eq] at hLk hLj
    rcases hLj with hLj | rfl
    · exact inv.K k j o' hkj hLk.1 ho he hLj b h1 h2
    · rw [hsame]; exact .inl rfl
  · intro j o' ho he hLj b h1 h2
    rw [hL'] at hLj
    simp only [Bool.or_eq_true, beq_iff_eq] at hLj
    rcases hLj with hLj | rfl
    · exact inv.K0 j o' ho he hLj b h1 h2
    · rw [hsame]; exact .inl rfl

theorem Inv.rel (inv : Inv P ops st val μ0 base w0 L μ a w g) : Rel μ base g w := inv.sim.rel

/-- Numbers of an operation that has not been done are free. -/
theorem Inv.fresh (ht : Trace P ops st val) (hf : Fresh μ0 (st 0).h.next (st ops.size).h.next) (inv : Inv P ops st val μ0 base w0 L μ a w g) {i : Nat} (hi : i < ops.size) (hL : L i = false) :
    Fresh μ (st i).h.next (st (i + 1)).h.next := by
  intro b h1 h2
  have h3 := ht.next (i := 0) (j := i) (by omega) (by omega)
  have h4 := ht.next (i := i + 1) (j := ops.size) (by omega) (by omega)
  have h5 := hf b (by omega) (by omega)
  by_cases e : μ b = μ0 b
  · rw [e]; exact h5
  · obtain ⟨k, h6, h7, h8, h9⟩ := inv.dom b e
    exfalso
    rcases Nat.lt_trichotomy k i with h | h | h
    · have := ht.next (i := k + 1) (j := i) (by omega) (by omega); omega
    · subst h; rw [hL] at h7; cases h7
    · have := ht.next (i := i + 1) (j := k) (by omega) (by omega); omega

/-- An effect. -/
theorem Inv.effect (hro : ROk ops) (ht : Trace P ops st val) (hchain : chained (Region.before ops) (effs P ops) = true) (hf : Fresh μ0 (st 0).h.next (st ops.size).h.next)
    (inv : Inv P ops st val μ0 base w0 L μ a w g) {i : Nat} {o : Oper} (hi : ops[i]? = some o) (hL : L i = false) (hready : ∀ e ∈ o.after, Region.binds .any e = true → L e.on = true) (hei : isEff P o = true)
    {L' : Nat → Bool} (hL' : ∀ k, L' k = (L k || k == i)) {v' : Value} {w' : World} {μ' : Mu} (ho : Out μ base (st i).h w (val i) (st (i + 1)).h v' w' μ') :
    ∃ g', Inv P ops st val μ0 base w0 L' μ' (a.put o.dst v') w' g' := by
  have hil := (Array.getElem?_eq_some_iff.1 hi).1
  have hsub : ∀ b p x, μ b = some p → (st i).h.get b = some x → g b = some x := fun b p x hp hx => inv.H b p i x hp (by omega) (inv.atEff hro hchain hi hL hready hei b) hx
  have hfr := Sim.frame inv.rel ho.sim hsub ho.next ho.dom
  refine ⟨_, ⟨down_upd inv hi hready hL', inv.put hro hi hL hL' ho.sim.le ho.val, by rw [put_defers]; exact inv.defers, inv.sim.trans hfr, fun b hb => ?_, fun b p x blk hp hx hat hget => ?_, ?_, ?_⟩⟩
  · by_cases e : μ' b = μ b
    · rw [e] at hb
      obtain ⟨k, h1, h2, h3⟩ := inv.dom b hb
      exact ⟨k, h1, by rw [hL', h2]; rfl, h3⟩
    · exact ⟨i, hil, by rw [hL']; simp, ho.dom b e⟩
  · by_cases hb : b < (st (i + 1)).h.next
    · simp only [if_pos hb]
      obtain ⟨_, h2⟩ := inv.behind hro ht hchain hi hL hei hL' hx hat hb
      rw [← h2]; exact hget
    · simp only [if_neg hb]
      have hp' : μ b = some p := by
        by_cases e : μ' b = μ b
        · rw [← e]; exact hp
        · have := ho.dom b e; omega
      refine inv.H b p x blk hp' hx ⟨fun j o' hj he hLj => hat.1 j o' hj he (by rw [hL', hLj]; rfl), fun j o' hj he hjx => ?_⟩ hget
      rcases hat.2 j o' hj he hjx with h | h
      · rw [hL'] at h
        simp only [Bool.or_eq_true, beq_iff_eq] at h
        rcases h with h | rfl
        · exact .inl h
        · exact .inr (by omega)
      · exact .inr h
  · intro k j o' hkj hLk hoj he hLj b h1 h2
    rw [hL'] at hLk hLj
    simp only [Bool.or_eq_false_iff, Bool.or_eq_true, beq_iff_eq] at hLk hLj
    rcases hLj with hLj | rfl
    · exact inv.K k j o' hkj hLk.1 hoj he hLj b h1 h2
    · have h3 := ht.next (i := k + 1) (j := j) (by omega) (by omega)
      exact ho.keep b (by omega) (inv.fresh ht hf (by omega) hLk.1 b h1 h2)
  · intro j o' hoj he hLj b h1 h2
    rw [hL'] at hLj
    simp only [Bool.or_eq_true, beq_iff_eq] at hLj
    rcases hLj with hLj | rfl
    · exact inv.K0 j o' hoj he hLj b h1 h2
    · have h3 := ht.next (i := 0) (j := j) (by omega) (by omega)
      refine ho.keep b (by omega) ?_
      by_cases e : μ b = μ0 b
      · rw [e]; exact h2
      · obtain ⟨q, h4, h5, h6, h7⟩ := inv.dom b e
        have := ht.next (i := 0) (j := q) (by omega) (by omega)
        omega

/-- A block that is made. -/
theorem Inv.made (hro : ROk ops) (ht : Trace P ops st val)
    (inv : Inv P ops st val μ0 base w0 L μ a w g) {i : Nat} {o : Oper} (hi : ops[i]? = some o) (hL : L i = false) (hready : ∀ e ∈ o.after, Region.binds .any e = true → L e.on = true) (hei : isEff P o = false)
    {L' : Nat → Bool} (hL' : ∀ k, L' k = (L k || k == i)) {v' : Value} {w' : World} {p : Pl} {z : Nat → Nat → Option Value} {x0 : Blk} (hh : (st (i + 1)).h = (st i).h.push x0) (hb0 : μ (st i).h.next = none)
    (hv : VR (Mu.updz μ (st i).h.next p z) (val i) v') (hs : Sim μ base g w (Mu.updz μ (st i).h.next p z) (fun c => if c = (st i).h.next then some x0 else g c) w') :
    ∃ g', Inv P ops st val μ0 base w0 L' (Mu.updz μ (st i).h.next p z) (a.put o.dst v') w' g' := by
  have hil := (Array.getElem?_eq_some_iff.1 hi).1
  have hnx : (st (i + 1)).h.next = (st i).h.next + 1 := by rw [hh]; rfl
  have hat0 : ∀ x b, At P ops st L' x b → At P ops st L x b := by
    intro x b hat
    refine ⟨fun j o' hj he hLj => hat.1 j o' hj he (by rw [hL', hLj]; rfl), fun j o' hj he hjx => ?_⟩
    rcases hat.2 j o' hj he hjx with h | h
    · rw [hL'] at h
      simp only [Bool.or_eq_true, beq_iff_eq] at h
      rcases h with h | rfl
      · exact .inl h
      · rw [hi] at hj; simp at hj; subst hj; rw [hei] at he; cases he
    · exact .inr h
  refine ⟨_, ⟨down_upd inv hi hready hL', inv.put hro hi hL hL' hs.le hv, by rw [put_defers]; exact inv.defers, inv.sim.trans hs, fun b hb => ?_, fun b q x blk hp hx hat hget => ?_, ?_, ?_⟩⟩
  · by_cases e : b = (st i).h.next
    · exact ⟨i, hil, by rw [hL']; simp, by omega, by omega⟩
    · rw [Mu.updz_other e] at hb
      obtain ⟨k, h1, h2, h3⟩ := inv.dom b hb
      exact ⟨k, h1, by rw [hL', h2]; rfl, h3⟩
  · by_cases e : b = (st i).h.next
    · subst e
      simp only [if_true]
      have hlt := Hp.lt_of_get hget
      have hix : i < x := by
        rcases Nat.lt_or_ge i x with h | h
        · exact h
        · have := ht.next (i := x) (j := i) h (by omega); omega
      have hst := ht.goes (b := (st i).h.next) (i := i + 1) x (by omega) hx (by omega) (fun k o' h1 h2 h3 h4 => by
        rcases (hat0 x _ hat).2 k o' h3 h4 h2 with h5 | h5
        · exact inv.K i k o' (by omega) hL h3 h4 h5 _ (Nat.le_refl _) (by omega)
        · have := ht.next (i := i + 1) (j := k + 1) (by omega) (by omega); omega)
      rcases hst with hst | hst
      · rw [hst, hh, Hp.get_push, if_pos rfl] at hget
        exact hget
      · rw [hst] at hget; cases hget
    · simp only [if_neg e]
      rw [Mu.updz_other e] at hp
      exact inv.H b q x blk hp hx (hat0 x b hat) hget
  · intro k j o' hkj hLk hoj he hLj b h1 h2
    rw [hL'] at hLk hLj
    simp only [Bool.or_eq_false_iff, Bool.or_eq_true, beq_iff_eq] at hLk hLj
    rcases hLj with hLj | rfl
    · exact inv.K k j o' hkj hLk.1 hoj he hLj b h1 h2
    · rw [hi] at hoj; simp at hoj; subst hoj; rw [hei] at he; cases he
  · intro j o' hoj he hLj b h1 h2
    rw [hL'] at hLj
    simp only [Bool.or_eq_true, beq_iff_eq] at hLj
    rcases hLj with hLj | rfl
    · exact inv.K0 j o' hoj he hLj b h1 h2
    · rw [hi] at hoj; simp at hoj; subst hoj; rw [hei] at he; cases he
end
end Go.Abs
