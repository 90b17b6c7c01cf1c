/-
  THE ABSTRACT EVALUATOR IS SOUND: code, calls.
-/
import Derived.Test.YtolkoacllaaceaaAbs16
namespace Go.Abs
open Go

def exOf : Ex → Exit
  | .normal => .normal
  | .exit id => .exit id
  | .goto l => .goto l
  | .ret => .ret

section
variable {P : Program}

/-- A scope, and a jump to one of its labels, from which no further jump is made. -/
theorem wp_scope_fwd {c : Code} {Q : Exit → Act → World → Prop} {a : Act} {w : World}
    (h : c.wp P (fun e a w => match e with | .goto l => ∃ rest, findLabel c l = some rest ∧ rest.wp P (Exit.noGoto Q) a w | e => Q e a w) a w) : (Code.scope c).wp P Q a w := by
  intro b k cs
  obtain ⟨e, a₁, w₁, hq, harr⟩ := h b (.inScope c :: k) cs
  cases e with
  | normal => exact ⟨.normal, a₁, w₁, hq, .head step_scope (Steps.trans harr (.one step_inScope))⟩
  | exit id => exact ⟨.exit id, a₁, w₁, hq, fun k' hk => .head step_scope (harr k' (by simp [exitTo, hk]))⟩
  | goto l =>
    obtain ⟨rest, hf, hw⟩ := hq
    have hg : gotoIn l (.inScope c :: k) = some (.code rest :: .inScope c :: k) := by simp [gotoIn, hf]
    obtain ⟨e2, a2, w2, hq2, harr2⟩ := hw b (.inScope c :: k) cs
    have h1 := Steps.trans (Steps.one step_scope) (harr _ hg)
    cases e2 with
    | normal => exact ⟨.normal, a2, w2, hq2, Steps.trans h1 (Steps.trans harr2 (.one step_inScope))⟩
    | exit id => exact ⟨.exit id, a2, w2, hq2, fun k' hk => Steps.trans h1 (harr2 k' (by simp [exitTo, hk]))⟩
    | goto l' => exact hq2.elim
    | ret => exact ⟨_, a2, w2, hq2, .of_steps h1 harr2⟩
    | panic ch => exact ⟨_, a2, w2, hq2, .of_steps h1 harr2⟩
    | outgrown => exact ⟨_, a2, w2, hq2, .of_steps h1 harr2⟩
  | ret => exact ⟨_, a₁, w₁, hq, .of_steps (.one step_scope) harr⟩
  | panic ch => exact ⟨_, a₁, w₁, hq, .of_steps (.one step_scope) harr⟩
  | outgrown => exact ⟨_, a₁, w₁, hq, .of_steps (.one step_scope) harr⟩

/-- At the head of a loop's round. -/
def wpLoop (P : Program) (c : Code) (Q : Exit → Act → World → Prop) (a : Act) (w : World) : Prop :=
  ∀ (b : Frame) (k : List Item) (cs : List Frame), ∃ e a' w', Q e a' w' ∧ Arrives P (lone (b.at a (.code c :: .inLoop c :: k)) cs w) b k cs e a' w'
theorem wp_of_wpLoop {c : Code} {Q : Exit → Act → World → Prop} {a : Act} {w : World} (h : wpLoop P c Q a w) : (Code.loop c).wp P Q a w := by
  intro b k cs
  obtain ⟨e, a', w', hq, harr⟩ := h b k cs
  exact ⟨e, a', w', hq, .of_steps (.one step_loop) harr⟩
theorem wpLoop_round {c : Code} {Q : Exit → Act → World → Prop} {a : Act} {w : World} (h : c.wp P (Exit.then (wpLoop P c Q) Q) a w) : wpLoop P c Q a w := by
  intro b k cs
  obtain ⟨e, a₁, w₁, hq, harr⟩ := h b (.inLoop c :: k) cs
  cases e with
  | normal =>
    obtain ⟨e₂, a₂, w₂, hq₂, harr₂⟩ := hq b k cs
    exact ⟨e₂, a₂, w₂, hq₂, .of_steps (Steps.trans harr (.one step_inLoop)) harr₂⟩
  | exit id => exact ⟨_, a₁, w₁, hq, .pass (x := .inLoop c) rfl (fun _ _ => .inl (by simp)) harr⟩
  | goto l => exact ⟨_, a₁, w₁, hq, .pass (x := .inLoop c) rfl (fun _ _ => .inl (by simp)) harr⟩
  | ret => exact ⟨_, a₁, w₁, hq, .pass (x := .inLoop c) rfl (fun _ _ => .inl (by simp)) harr⟩
  | panic ch => exact ⟨_, a₁, w₁, hq, .pass (x := .inLoop c) rfl (fun _ _ => .inl (by simp)) harr⟩
  | outgrown => exact ⟨_, a₁, w₁, hq, .pass (x := .inLoop c) rfl (fun _ _ => .inl (by simp)) harr⟩

/-- All regions are in order. -/
def OkCode : Code → Prop
  | .region _ ops d => d = true → ROk ops
  | .seq a b => OkCode a ∧ OkCode b
  | .cond _ a b => OkCode a ∧ OkCode b
  | .block _ b => OkCode b
  | .loop b => OkCode b
  | .scope b => OkCode b
  | _ => True

theorem okCode_label : ∀ {c : Code} {l : Nat} {r : Code}, findLabel c l = some r → OkCode c → OkCode r
  | .seq a b, l, r, h, hc => by
    unfold findLabel at h
    split at h
    · rename_i rest hr
      simp only [Option.some.injEq] at h; subst h
      exact ⟨okCode_label hr hc.1, hc.2⟩
    · exact okCode_label h hc.2
  | .label l', l, r, h, _ => by
    unfold findLabel at h
    split at h
    · simp only [Option.some.injEq] at h; subst h; trivial
    · cases h
  | .skip, _, _, h, _ => by simp [findLabel] at h
  | .region .., _, _, h, _ => by simp [findLabel] at h
  | .cond .., _, _, h, _ => by simp [findLabel] at h
  | .block .., _, _, h, _ => by simp [findLabel] at h
  | .loop _, _, _, h, _ => by simp [findLabel] at h
  | .rangeFunc .., _, _, h, _ => by simp [findLabel] at h
  | .exit _, _, _, h, _ => by simp [findLabel] at h
  | .scope _, _, _, h, _ => by simp [findLabel] at h
  | .goto _, _, _, h, _ => by simp [findLabel] at h
  | .ret, _, _, h, _ => by simp [findLabel] at h
  | .refuse _, _, _, h, _ => by simp [findLabel] at h

/-- What the program owes: orders are open as followed; its regions are in order; no function is the one that counts goroutines. -/
structure ProgOk (P : Program) : Prop where
  mixed : P.follows .mixedOrders = true
  code : ∀ {f : FuncId} {fn : Func} {c : Code}, P.funcs[f]? = some fn → fn.body = some c → OkCode c
  name : ∀ {f : FuncId} {fn : Func}, P.funcs[f]? = some fn → fn.name ≠ "runtime.NumGoroutine"

variable {μ : Mu} {base : Nat} {w : World}

theorem resultA_run {s : St} {r : ResultVar} {v : Value} (h : resultA P s r = some v) {a : Act} (ht : TR μ s.tmps a.tmps) (hr : Rel μ base s.h.get w) :
    ∃ v', (match r with | .tmp t => pure (a.tmps.getD t undef) | .cell x t => do loadVar t (← asAddr (a.tmps.getD x undef)) : Sem Value).run P w = .ok v' w ∧ VR μ v v' := by
  unfold resultA at h
  cases r with
  | tmp t =>
    simp only [Option.some.injEq] at h; subst h
    exact ⟨_, rfl, ht.getD t⟩
  | cell x t =>
    simp only at h
    have hx := ht.getD x
    obtain ⟨v', h1, h2⟩ := loadA_run h hr hx
    refine ⟨v', ?_, h2⟩
    unfold loadA at h
    split at h
    · rename_i b o hp
      rw [hp] at hx
      obtain ⟨p, _, hv⟩ := hx.inv_ptr
      show (do loadVar t (← asAddr (a.tmps.getD x undef)) : Sem Value).run P w = _
      rw [hv] at h1 ⊢
      simpa [Instr.loadAt, Instr.sureAddr, asAddr] using h1
    · cases h

theorem resultsL_run {s : St} {a : Act} (ht : TR μ s.tmps a.tmps) (hr : Rel μ base s.h.get w) : ∀ {rs : List ResultVar} {vs : List Value}, resultsL P s rs = some vs →
    ∃ vs', (rs.mapM fun r => (match r with | .tmp t => pure (a.tmps.getD t undef) | .cell x t => do loadVar t (← asAddr (a.tmps.getD x undef)) : Sem Value)).run P w = .ok vs' w ∧ All2 (VR μ) vs vs'
  | [], vs, h => by simp only [resultsL, Option.some.injEq] at h; subst h; exact ⟨[], rfl, All2.nil⟩
  | r :: rs, vs, h => by
    unfold resultsL at h
    split at h
    · rename_i v l hv hl
      simp only [Option.some.injEq] at h; subst h
      obtain ⟨v', h1, h2⟩ := resultA_run hv ht hr
      obtain ⟨l', h3, h4⟩ := resultsL_run ht hr hl
      refine ⟨v' :: l', ?_, All2.cons h2 h4⟩
      rw [List.mapM_cons]
      simp only [Sem.run_bind, h1, Result.andThen_ok, h3, Sem.run_pure]
    · cases h

theorem resultsA_run {fn : Func} {s : St} {v : Value} (h : resultsA P fn s = some v) {a : Act} (ht : TR μ s.tmps a.tmps) (hr : Rel μ base s.h.get w) :
    ∃ v', (results fn a.tmps).run P w = .ok v' w ∧ VR μ v v' := by
  unfold resultsA at h
  have key : ∀ vs vs', resultsL P s fn.results.toList = some vs → All2 (VR μ) vs vs' →
      (fn.results.toList.mapM fun r => (match r with | .tmp t => pure (a.tmps.getD t undef) | .cell x t => do loadVar t (← asAddr (a.tmps.getD x undef)) : Sem Value)).run P w = .ok vs' w →
      (results fn a.tmps).run P w = .ok (if h : vs'.toArray.size = 1 then vs'.toArray[0] else .tuple vs'.toArray) w := by
    intro vs vs' _ _ hrun
    unfold results
    have hm : (fn.results.mapM fun r => (match r with | .tmp t => pure (a.tmps.getD t undef) | .cell x t => do loadVar t (← asAddr (a.tmps.getD x undef)) : Sem Value)).run P w = .ok vs'.toArray w := by
      rw [← Array.toArray_toList (xs := fn.results), List.mapM_toArray]
      simp only [Sem.run_map]
      rw [hrun]; rfl
    simp only [Sem.run_bind]
    erw [hm]
    rfl
  split at h
  · rename_i v0 hl
    simp only [Option.some.injEq] at h; subst h
    obtain ⟨vs', h1, h2⟩ := resultsL_run ht hr hl
    obtain ⟨v', l, rfl, h3, h4⟩ := h2.inv_cons
    have := h4.inv_nil; subst this
    exact ⟨v', by rw [key _ _ hl h2 h1]; simp, h3⟩
  · rename_i vs hne hl
    split at h
    · rename_i hnt
      simp only [Option.some.injEq] at h; subst h
      obtain ⟨vs', h1, h2⟩ := resultsL_run ht hr hl
      refine ⟨.tuple vs'.toArray, ?_, .tup ?_⟩
      · rw [key _ _ hl h2 h1]
        have hlen : vs'.toArray.size ≠ 1 := by
          intro e
          simp only [List.size_toArray] at e
          rw [← h2.1] at e
          obtain ⟨x, rfl⟩ := List.length_eq_one_iff.1 e
          exact hne x rfl
        rw [dif_neg hlen]
      · simp only
        exact h2.mono fun x y hx r => r.noTup (List.all_eq_true.1 hnt x hx)
    · cases h
  · cases h

/-- What is known of a function, said without its text. -/
def KnownOk (P : Program) (X : Known) : Prop := ∀ f g, X f = some g → (∀ {args h v h'}, g args h = some (v, h') → h.next ≤ h'.next ∧
  ∀ {μ : Mu} {base : Nat} {w : World} {args' : Array Value}, All2 (VR μ) args args'.toList → Rel μ base h.get w → Fresh μ h.next h'.next → Does P f args' w fun v' w' => ∃ μ', Out μ base h w v h' v' w' μ')

/-- Code that is sound. -/
def Sound (P : Program) (c : Code) (s : St) (ex : Ex) (s' : St) : Prop :=
  s.h.next ≤ s'.h.next ∧ ∀ {μ : Mu} {base : Nat} {a : Act} {w : World} {Q : Exit → Act → World → Prop}, TR μ s.tmps a.tmps → a.defers = [] → Rel μ base s.h.get w → Fresh μ s.h.next s'.h.next →
    (∀ a' w' μ', StOut μ base s w s' a' w' μ' → Q (exOf ex) a' w') → c.wp P Q a w

/-- A loop from the head of a round. -/
def SoundL (P : Program) (c : Code) (s : St) (ex : Ex) (s' : St) : Prop :=
  s.h.next ≤ s'.h.next ∧ ∀ {μ : Mu} {base : Nat} {a : Act} {w : World} {Q : Exit → Act → World → Prop}, TR μ s.tmps a.tmps → a.defers = [] → Rel μ base s.h.get w → Fresh μ s.h.next s'.h.next →
    (∀ a' w' μ', StOut μ base s w s' a' w' μ' → Q (exOf ex) a' w') → wpLoop P c Q a w

theorem callWith_ok (hP : ProgOk P) {X : Known} (hX : KnownOk P X) {rc : Code → St → Option (Ex × St)} (hrc : ∀ c s ex s', OkCode c → rc c s = some (ex, s') → Sound P c s ex s') : CallOk P (callWith P X rc) := by
  have body : ∀ {f : FuncId} {fn : Func} {c : Code} {args : List Value} {h : Hp} {v : Value} {h' : Hp}, P.funcs[f]? = some fn → fn.body = some c → (match rc c ⟨args ++ List.replicate (fn.ntmps - args.length) undef, h⟩ with
      | some (.normal, s) | some (.ret, s) => match resultsA P fn s with
        | some v => some (v, s.h)
        | none => none
      | _ => none) = some (v, h') → ∃ ex s', (ex = .normal ∨ ex = .ret) ∧ rc c ⟨args ++ List.replicate (fn.ntmps - args.length) undef, h⟩ = some (ex, s') ∧ resultsA P fn s' = some v ∧ s'.h = h' := by
    intro f fn c args h v h' _ _ e
    split at e
    · rename_i s' hr
      split at e
      · rename_i v0 hv; simp at e; obtain ⟨rfl, rfl⟩ := e; exact ⟨_, s', .inl rfl, hr, hv, rfl⟩
      · cases e
    · rename_i s' hr
      split at e
      · rename_i v0 hv; simp at e; obtain ⟨rfl, rfl⟩ := e; exact ⟨_, s', .inr rfl, hr, hv, rfl⟩
      · cases e
    · cases e
  refine ⟨fun {f args h v h'} e => ?_, fun {f args h v h'} e {μ base w args'} hl hrel hf => ?_⟩
  · unfold callWith at e
    split at e
    · rename_i g hg
      exact (hX f g hg e).1
    · split at e
      · cases e
      · rename_i fn hfn
        split at e
        · exact externA_next e
        · rename_i c hb
          obtain ⟨ex, s', _, h1, _, rfl⟩ := body hfn hb e
          exact (hrc c _ ex s' (hP.code hfn hb) h1).1
  · unfold callWith at e
    split at e
    · rename_i g hg
      exact (hX f g hg e).2 hl hrel hf
    · split at e
      · cases e
      · rename_i fn hfn
        split at e
        · rename_i hb
          obtain ⟨v', w', μ', h1, h2⟩ := externA_run e hl hrel (fun hlt => hf h.next (Nat.le_refl _) hlt) hfn hb
          exact .inl ⟨v', w', h1, μ', h2⟩
        · rename_i c hb
          obtain ⟨ex, s', hex, h1, hres, rfl⟩ := body hfn hb e
          refine .inr ⟨?_, ?_⟩
          · have hn := hP.name hfn
            simp [callFunc, hfn, hn, hb]
          · refine calls_of_wp hfn hb ?_
            have hs := hrc c _ ex s' (hP.code hfn hb) h1
            have htr : TR μ (args ++ List.replicate (fn.ntmps - args.length) undef) (args' ++ Array.replicate (fn.ntmps - args'.size) undef) := by
              unfold TR
              rw [Array.toList_append, Array.toList_replicate]
              have : args.length = args'.size := by rw [hl.1, Array.length_toList]
              rw [this]
              exact hl.append (All2.replicate _ (.undef μ))
            refine hs.2 htr rfl hrel hf fun a' w' μ' so => ?_
            obtain ⟨v', h2, h3⟩ := resultsA_run hres so.tmps so.sim.rel
            have hout : Out μ base h w v s'.h v' w' μ' := ⟨h3, so.sim, (hrc c _ ex s' (hP.code hfn hb) h1).1, so.dom, so.keep⟩
            rcases hex with rfl | rfl
            · exact ⟨so.defers, v', h2, v', rfl, μ', hout⟩
            · exact ⟨so.defers, v', h2, v', rfl, μ', hout⟩

theorem Sound.of_eq {c : Code} {s : St} {ex : Ex} (h : ∀ {Q : Exit → Act → World → Prop} {a : Act} {w : World}, Q (exOf ex) a w → c.wp P Q a w) : Sound P c s ex s :=
  ⟨Nat.le_refl _, fun {μ _ a w _} ht hd hrel _ hq => h (hq a w μ ⟨ht, hd, Sim.refl hrel, fun _ hb => absurd rfl hb, .refl μ _⟩)⟩

/-- THE EVALUATOR IS SOUND. -/
theorem run_sound (hP : ProgOk P) {X : Known} (hX : KnownOk P X) {chk : Chk} (hchk : ∀ a b, chk a b = true → a = b) : ∀ (n : Nat) (c : Code) (s : St) (ex : Ex) (s' : St), OkCode c → run chk P X n c s = some (ex, s') → Sound P c s ex s' := by
  suffices H : ∀ (n : Nat), (∀ (c : Code) (s : St) (ex : Ex) (s' : St), OkCode c → run chk P X n c s = some (ex, s') → Sound P c s ex s') ∧ (∀ (c : Code) (s : St) (ex : Ex) (s' : St), OkCode c → run chk P X n (.loop c) s = some (ex, s') → SoundL P c s ex s') from fun n => (H n).1
  intro n
  induction n with
  | zero => exact ⟨fun c s ex s' _ e => by simp [run] at e, fun c s ex s' _ e => by simp [run] at e⟩
  | succ n ihn =>
    obtain ⟨ih, ihl⟩ := ihn
    have hl : ∀ (c : Code) (s : St) (ex : Ex) (s' : St), OkCode c → run chk P X (n + 1) (.loop c) s = some (ex, s') → SoundL P c s ex s' := by
      intro b s ex s' hok e
      rw [run] at e
      split at e
      · rename_i s1 h1
        have h2 := ih b s .normal s1 hok h1
        have h3 := ihl b s1 ex s' hok e
        refine ⟨Nat.le_trans h2.1 h3.1, fun {μ base a w Q} ht hd hrel hf hq => wpLoop_round (h2.2 ht hd hrel (hf.left h3.1) fun a1 w1 μ1 so => ?_)⟩
        exact h3.2 so.tmps so.defers so.sim.rel (so.fresh hf h2.1) fun a2 w2 μ2 so2 => hq a2 w2 μ2 (so.trans so2 h2.1 h3.1)
      · rename_i hne
        have h1 := ih b s ex s' hok e
        refine ⟨h1.1, fun {μ base a w Q} ht hd hrel hf hq => wpLoop_round (h1.2 ht hd hrel hf fun a' w' μ' so => ?_)⟩
        have := hq a' w' μ' so
        cases ex <;> first | exact absurd e (hne _) | exact this
    refine ⟨?_, hl⟩
    intro c s ex s' hok e
    have hcall : CallOk P (callWith P X (run chk P X n)) := callWith_ok hP hX ih
    have seq2 : ∀ {c1 c2 c : Code} {s s1 s2 : St} {ex : Ex}, Sound P c1 s .normal s1 → Sound P c2 s1 ex s2 →
        (∀ {Q : Exit → Act → World → Prop} {a : Act} {w : World}, c1.wp P (fun e a w => match e with | .normal => c2.wp P Q a w | _ => False) a w → c.wp P Q a w) → Sound P c s ex s2 := by
      intro c1 c2 c s s1 s2 ex h1 h2 hw
      refine ⟨Nat.le_trans h1.1 h2.1, fun {μ base a w Q} ht hd hrel hf hq => hw ?_⟩
      refine h1.2 ht hd hrel (hf.left h2.1) fun a1 w1 μ1 so => ?_
      exact h2.2 so.tmps so.defers so.sim.rel (so.fresh hf h1.1) fun a2 w2 μ2 so2 => hq a2 w2 μ2 (so.trans so2 h1.1 h2.1)
    unfold run at e
    split at e
    · simp only [Option.some.injEq, Prod.mk.injEq] at e; obtain ⟨rfl, rfl⟩ := e; exact Sound.of_eq fun h => wp_skip h
    · simp only [Option.some.injEq, Prod.mk.injEq] at e; obtain ⟨rfl, rfl⟩ := e; exact Sound.of_eq fun h => wp_label h
    · simp only [Option.some.injEq, Prod.mk.injEq] at e; obtain ⟨rfl, rfl⟩ := e; exact Sound.of_eq fun h => wp_ret h
    · simp only [Option.some.injEq, Prod.mk.injEq] at e; obtain ⟨rfl, rfl⟩ := e; exact Sound.of_eq fun h => wp_exit h
    · simp only [Option.some.injEq, Prod.mk.injEq] at e; obtain ⟨rfl, rfl⟩ := e; exact Sound.of_eq fun h => wp_goto h
    · -- a region
      rename_i id ops draw
      split at e
      · rename_i hd
        subst hd
        split at e
        · rename_i s1 hr
          simp only [Option.some.injEq, Prod.mk.injEq] at e; obtain ⟨rfl, rfl⟩ := e
          obtain ⟨h1, h2⟩ := draw_sound hP.mixed hchk hcall (hok rfl) hr
          exact ⟨h1, fun {μ base a w Q} ht hd hrel hf hq => h2 ht hd hrel hf hq⟩
        · cases e
      · rename_i hd
        have hd' : draw = false := by simpa using hd
        subst hd'
        split at e
        · rename_i s1 hr
          simp only [Option.some.injEq, Prod.mk.injEq] at e; obtain ⟨rfl, rfl⟩ := e
          exact ⟨runOps_next hcall hr, fun {μ base a w Q} ht hd hrel hf hq => wp_region_list (ops_sound hcall hr ht hd hrel hf hq)⟩
        · cases e
    · -- one behind the other
      rename_i a b
      split at e
      · rename_i s1 h1
        exact seq2 (ih a s .normal s1 hok.1 h1) (ih b s1 ex s' hok.2 e) fun h => wp_seq (wp_mono h fun e a w q => by cases e <;> first | exact q | exact q.elim)
      · rename_i hne
        have h1 := ih a s ex s' hok.1 e
        have hx : ex ≠ .normal := fun hx => by subst hx; exact hne s' e
        refine ⟨h1.1, fun {μ base a1 w Q} ht hd hrel hf hq => wp_seq (h1.2 ht hd hrel hf fun a' w' μ' so => ?_)⟩
        have := hq a' w' μ' so
        cases ex <;> first | exact absurd rfl hx | exact this
    · -- a test
      rename_i c a b
      split at e
      · rename_i hop
        split at e
        · rename_i t hc
          have hb : evA s.tmps c = .bool t := by
            unfold condA at hc
            split at hc
            · rename_i b' hb'; simp at hc; subst hc; exact hb'
            · cases hc
          have h1 := ih (if t then a else b) s ex s' (by cases t <;> first | exact hok.1 | exact hok.2) e
          refine ⟨h1.1, fun {μ base a1 w Q} ht hd hrel hf hq => ?_⟩
          have hev := eval_rel (μ := μ) ht hop
          rw [hb] at hev
          exact wp_cond hev.inv_bool (h1.2 ht hd hrel hf hq)
        · cases e
      · cases e
    · -- a block
      rename_i id b
      split at e
      · rename_i id' s1 h1
        have h2 := ih b s (.exit id') s1 hok h1
        split at e
        · rename_i hid
          simp only [Option.some.injEq, Prod.mk.injEq] at e; obtain ⟨rfl, rfl⟩ := e
          refine ⟨h2.1, fun {μ base a1 w Q} ht hd hrel hf hq => wp_block (h2.2 ht hd hrel hf fun a' w' μ' so => ?_)⟩
          simp only [exOf, Exit.inBlock, hid, if_true]
          exact hq a' w' μ' so
        · rename_i hid
          simp only [Option.some.injEq, Prod.mk.injEq] at e; obtain ⟨rfl, rfl⟩ := e
          refine ⟨h2.1, fun {μ base a1 w Q} ht hd hrel hf hq => wp_block (h2.2 ht hd hrel hf fun a' w' μ' so => ?_)⟩
          simp only [exOf, Exit.inBlock, hid, if_false]
          exact hq a' w' μ' so
      · rename_i hne
        have h1 := ih b s ex s' hok e
        refine ⟨h1.1, fun {μ base a1 w Q} ht hd hrel hf hq => wp_block (h1.2 ht hd hrel hf fun a' w' μ' so => ?_)⟩
        have := hq a' w' μ' so
        cases ex <;> first | exact absurd e (hne _ _) | exact this
    · -- a loop
      rename_i b
      have h1 := hl b s ex s' hok (by rw [run]; exact e)
      exact ⟨h1.1, fun {μ base a w Q} ht hd hrel hf hq => wp_of_wpLoop (h1.2 ht hd hrel hf hq)⟩
    · -- a scope
      rename_i b
      split at e
      · rename_i l s1 h1
        split at e
        · rename_i rest hf
          split at e
          · cases e
          · rename_i hng
            have h2 := ih b s (.goto l) s1 hok h1
            have h3 := ih rest s1 ex s' (okCode_label hf hok) e
            refine ⟨Nat.le_trans h2.1 h3.1, fun {μ base a1 w Q} ht hd hrel hfr hq => wp_scope_fwd (h2.2 ht hd hrel (hfr.left h3.1) fun a' w' μ' so => ?_)⟩
            refine ⟨rest, hf, h3.2 so.tmps so.defers so.sim.rel (so.fresh hfr h2.1) fun a2 w2 μ2 so2 => ?_⟩
            have := hq a2 w2 μ2 (so.trans so2 h2.1 h3.1)
            cases ex <;> first | exact absurd e (hng _ _) | exact this
        · cases e
      · rename_i hng
        have h1 := ih b s ex s' hok e
        refine ⟨h1.1, fun {μ base a1 w Q} ht hd hrel hf hq => wp_scope_fwd (h1.2 ht hd hrel hf fun a' w' μ' so => ?_)⟩
        have := hq a' w' μ' so
        cases ex <;> first | exact absurd e (hng _ _) | exact this
    · cases e
    · cases e
end
end Go.Abs
