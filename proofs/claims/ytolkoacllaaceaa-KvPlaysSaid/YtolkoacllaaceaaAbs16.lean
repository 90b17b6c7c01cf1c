/-
  A REGION WHOSE ORDER IS OPEN, WHOLE; CODE; CALLS.
-/
import Derived.Test.YtolkoacllaaceaaAbs15
import Derived.Scope
import Derived.ScopeJumps
namespace Go.Abs
open Go

section
variable {P : Program} {ops : Array Oper} {st : Nat → St} {val : Nat → Value}
variable {μ0 : Mu} {base : Nat} {w0 : World} {L : Nat → Bool} {μ : Mu} {a : Act} {w : World} {g : Gm}

theorem ordered_lt (hro : ROk ops) : ∀ (n : Nat) {i j : Nat} {o : Oper}, j < n → ops[j]? = some o → ordered (Region.before ops) i j = true → i < j := by
  intro n
  induction n with
  | zero => intro i j o h; omega
  | succ n ih =>
    intro i j o hn hj hord
    obtain ⟨e, he, hb, h1⟩ := ordered_edge hj (fun e he hb => hro.edge hj he hb) hord
    have hlt := hro.edge hj he hb
    rcases h1 with rfl | h1
    · exact hlt
    · have hjn := (Array.getElem?_eq_some_iff.1 hj).1
      have := ih (by omega) (Array.getElem?_eq_getElem (xs := ops) (i := e.on) (by omega)) h1
      omega

theorem exists_max {p : Nat → Prop} : ∀ n, (∃ j, j < n ∧ p j) → ∃ j, j < n ∧ p j ∧ ∀ k, k < n → p k → k ≤ j := by
  intro n
  induction n with
  | zero => rintro ⟨j, h, _⟩; omega
  | succ n ih =>
    rintro ⟨j, hj, hp⟩
    by_cases h : p n
    · exact ⟨n, by omega, h, fun k hk _ => by omega⟩
    · have hjn : j ≠ n := fun e => h (e ▸ hp)
      obtain ⟨m, h1, h2, h3⟩ := ih ⟨j, by omega, hp⟩
      refine ⟨m, by omega, h2, fun k hk hpk => ?_⟩
      by_cases e : k = n
      · subst e; exact absurd hpk h
      · exact h3 k (by omega) hpk
theorem exists_min {p : Nat → Prop} : ∀ n, (∃ j, j < n ∧ p j) → ∃ j, j < n ∧ p j ∧ ∀ k, k < j → ¬ p k := by
  intro n
  induction n with
  | zero => rintro ⟨j, h, _⟩; omega
  | succ n ih =>
    rintro ⟨j, hj, hp⟩
    by_cases h : ∃ k, k < n ∧ p k
    · obtain ⟨m, h1, h2, h3⟩ := ih h
      exact ⟨m, by omega, h2, h3⟩
    · refine ⟨j, hj, hp, fun k hk hpk => h ⟨k, by omega, hpk⟩⟩

/-- A read finds what it found in the text's order. -/
theorem Inv.read (hro : ROk ops) (hchain : chained (Region.before ops) (effs P ops) = true)
    (inv : Inv P ops st val μ0 base w0 L μ a w g) {i : Nat} {o : Oper} (hi : ops[i]? = some o) (hL : L i = false) (hready : ∀ e ∈ o.after, Region.binds .any e = true → L e.on = true) (hei : isEff P o = false)
    (good : Nat → Prop) (hgood : good i) (hpairs : ∀ j o', ops[j]? = some o' → isEff P o' = true → unordered (Region.before ops) i j = true → good j ∧ good (j + 1)) :
    ∃ x, x ≤ ops.size ∧ good x ∧ Rel μ base (st x).h.get w := by
  have hil := (Array.getElem?_eq_some_iff.1 hi).1
  have fin : ∀ x, x ≤ ops.size → good x → (∀ j o', ops[j]? = some o' → isEff P o' = true → L j = true → j < x) → (∀ j o', ops[j]? = some o' → isEff P o' = true → j < x → L j = true) →
      ∃ x, x ≤ ops.size ∧ good x ∧ Rel μ base (st x).h.get w := fun x hx hg h1 h2 =>
    ⟨x, hx, hg, inv.rel.less fun b p y hp hy => inv.H b p x y hp hx ⟨h1, fun j o' a b c => .inl (h2 j o' a b c)⟩ hy⟩
  by_cases hB : ∃ j, j < ops.size ∧ (∃ o', ops[j]? = some o' ∧ isEff P o' = true ∧ L j = true ∧ i < j)
  · -- an effect that stands behind it has been done
    obtain ⟨j, hjl, ⟨o', hj, hej, hLj, hij⟩, hmax⟩ := exists_max _ hB
    have hun : unordered (Region.before ops) i j = true := by
      unfold unordered
      have h1 : ordered (Region.before ops) i j = false := by
        cases h : ordered (Region.before ops) i j with
        | false => rfl
        | true => have := (inv.preds' hro hj hLj h).1; rw [hL] at this; cases this
      have h2 : ordered (Region.before ops) j i = false := by
        cases h : ordered (Region.before ops) j i with
        | false => rfl
        | true => have := ordered_lt hro (i + 1) (Nat.lt_succ_self i) hi h; omega
      rw [h1, h2]; rfl
    refine fin (j + 1) (by omega) (hpairs j o' hj hej hun).2 (fun k ok hk hek hLk => ?_) (fun k ok hk hek hkj => ?_)
    · by_cases hik : i < k
      · have hkl := (Array.getElem?_eq_some_iff.1 hk).1
        have := hmax k hkl ⟨ok, hk, hek, hLk, hik⟩
        omega
      · omega
    · rcases Nat.lt_or_ge k j with h | h
      · exact (inv.preds' hro hj hLj (effs_ordered hchain h ((mem_effs hk).2 hek) ((mem_effs hj).2 hej))).1
      · have : k = j := by omega
        subst this; exact hLj
  · by_cases hC : ∃ j, j < ops.size ∧ (∃ o', ops[j]? = some o' ∧ isEff P o' = true ∧ L j = false ∧ j < i)
    · -- an effect that stands ahead of it has not been done
      obtain ⟨j, hjl, ⟨o', hj, hej, hLj, hji⟩, hmin⟩ := exists_min _ hC
      have hun : unordered (Region.before ops) i j = true := by
        unfold unordered
        have h1 : ordered (Region.before ops) i j = false := by
          cases h : ordered (Region.before ops) i j with
          | false => rfl
          | true => have := ordered_lt hro (j + 1) (Nat.lt_succ_self j) hj h; omega
        have h2 : ordered (Region.before ops) j i = false := by
          cases h : ordered (Region.before ops) j i with
          | false => rfl
          | true => have := (inv.preds hro (i + 1) (Nat.lt_succ_self i) hi hready h).1; rw [hLj] at this; cases this
        rw [h1, h2]; rfl
      refine fin j (by omega) (hpairs j o' hj hej hun).1 (fun k ok hk hek hLk => ?_) (fun k ok hk hek hkj => ?_)
      · rcases Nat.lt_or_ge k j with h | h
        · exact h
        · rcases Nat.eq_or_lt_of_le h with e | h
          · subst e; rw [hLj] at hLk; cases hLk
          · rw [inv.noLater hro hchain hj hLj hej hk hek h] at hLk; cases hLk
      · have hkl := (Array.getElem?_eq_some_iff.1 hk).1
        cases hLk : L k with
        | true => rfl
        | false => exact absurd ⟨ok, hk, hek, hLk, by omega⟩ (hmin k hkj)
    · refine fin i (by omega) hgood (fun k ok hk hek hLk => ?_) (fun k ok hk hek hki => ?_)
      · have hkl := (Array.getElem?_eq_some_iff.1 hk).1
        rcases Nat.lt_or_ge k i with h | h
        · exact h
        · rcases Nat.eq_or_lt_of_le h with e | h
          · subst e; rw [hi] at hk; simp at hk; subst hk; rw [hei] at hek; cases hek
          · exact absurd ⟨k, hkl, ok, hk, hek, hLk, h⟩ hB
      · have hkl := (Array.getElem?_eq_some_iff.1 hk).1
        cases hLk : L k with
        | true => rfl
        | false => exact absurd ⟨k, hkl, ok, hk, hek, hLk, hki⟩ hC

/-- All has been done. -/
theorem Inv.done (ht : Trace P ops st val) (inv : Inv P ops st val μ0 base w0 L μ a w g) (hall : ∀ k, k < ops.size → L k = true) :
    StOut μ0 base (st 0) w0 (st ops.size) a w μ := by
  have hat : ∀ b, At P ops st L ops.size b := fun b => ⟨fun j o hj _ _ => (Array.getElem?_eq_some_iff.1 hj).1, fun j o hj _ hlt => .inl (hall j hlt)⟩
  refine ⟨?_, inv.defers, inv.sim.less fun b p x hp hx => inv.H b p ops.size x hp (Nat.le_refl _) (hat b) hx, fun b hb => ?_, fun b hb hn => ?_⟩
  · have h1 := inv.tmps
    have h2 : tmL ops (st 0).tmps val L ops.size = (st ops.size).tmps := by
      rw [ht.tmps ops.size (Nat.le_refl _)]
      apply List.ext_getElem?
      intro t
      exact tmL_get ops (st 0).tmps val t _ _ (fun k hk _ _ => ⟨hk, rfl⟩) (fun k hk _ _ => ⟨hk, hall k hk⟩)
    rw [h2] at h1; exact h1
  · obtain ⟨i, h1, _, h2, h3⟩ := inv.dom b hb
    have h4 := ht.next (i := 0) (j := i) (by omega) (by omega)
    have h5 := ht.next (i := i + 1) (j := ops.size) (by omega) (by omega)
    omega
  · exact ht.goes ops.size (Nat.zero_le _) (Nat.le_refl _) hb fun k o _ hk ho he => inv.K0 k o ho he (hall k hk) b hb hn

/-- One operation that may come next. -/
theorem Inv.step (hro : ROk ops) (hg : guardsOk ops = true) (ht : Trace P ops st val) (hchain : chained (Region.before ops) (effs P ops) = true) (hf : Fresh μ0 (st 0).h.next (st ops.size).h.next)
    (hpairs : ∀ i j oi oj, ops[i]? = some oi → ops[j]? = some oj → kindOf P oi.op = .R → isEff P oj = true → unordered (Region.before ops) i j = true → wantedA ops oi (st i).tmps = true →
      SemR P (evA (st i).tmps) oi (st j).h (val i) ∧ SemR P (evA (st i).tmps) oi (st (j + 1)).h (val i))
    (inv : Inv P ops st val μ0 base w0 L μ a w g) {i : Nat} {o : Oper} (hi : ops[i]? = some o) (hL : L i = false) (hready : ∀ e ∈ o.after, Region.binds .any e = true → L e.on = true)
    {L' : Nat → Bool} (hL' : ∀ k, L' k = (L k || k == i)) {Q : Exit → Act → World → Prop} {K : Act → World → Prop} (hK : ∀ μ' a' w' g', Inv P ops st val μ0 base w0 L' μ' a' w' g' → K a' w') :
    wpOp P ops Q i K a w := by
  have hil := (Array.getElem?_eq_some_iff.1 hi).1
  unfold wpOp
  rw [hi]
  simp only
  rw [inv.wanted hro hg ht hi hready]
  rcases (ht.step hi).1 with ⟨hw, hok, hs⟩ | ⟨hw, hv, hh⟩
  · rw [if_pos hw]
    left
    have hr := inv.operands hro ht hi hL hready hok
    cases hs with
    | T hkind hh hs =>
      obtain ⟨v', h1, h2⟩ := hs w hr
      unfold Oper.wp
      rw [h1]
      exact hK _ _ _ _ (inv.still hro ht hi hL hready hh hchain hL' h2)
    | R hkind hh hs =>
      obtain ⟨x, hx, hgood, hrel⟩ := inv.read hro hchain hi hL hready (by unfold isEff; rw [hkind]) (fun x => SemR P (evA (st i).tmps) o (st x).h (val i)) hs
        (fun j o' hj hej hun => hpairs i j o o' hi hj hkind hej hun hw)
      obtain ⟨v', h1, h2⟩ := hgood hr hrel
      unfold Oper.wp
      rw [h1]
      exact hK _ _ _ _ (inv.still hro ht hi hL hready hh hchain hL' h2)
    | @N x0 f hkind hu hh hs =>
      have hnx : (st (i + 1)).h.next = (st i).h.next + 1 := by rw [hh]; rfl
      have hb0 : μ (st i).h.next = none := inv.fresh ht hf hil hL _ (Nat.le_refl _) (by omega)
      obtain ⟨v', w', p, z, h1, h2, h3⟩ := hs hr inv.rel hb0
      unfold Oper.wp
      rw [h1]
      obtain ⟨g', h4⟩ := inv.made hro ht hi hL hready (by unfold isEff; rw [hkind]) hL' hh hb0 (by rw [hu]; exact h2) h3
      exact hK _ _ _ _ h4
    | E hei hn hs =>
      exact hs hr (inv.rel.less fun b p x hp hx => inv.H b p i x hp (by omega) (inv.atEff hro hchain hi hL hready hei b) hx) (inv.fresh ht hf hil hL)
        fun v' w' μ' ho => by obtain ⟨g', h4⟩ := inv.effect hro ht hchain hf hi hL hready hei hL' ho; exact hK _ _ _ _ h4
  · rw [if_neg (by rw [hw]; simp)]
    exact hK _ _ _ _ (inv.still hro ht hi hL hready hh hchain hL' (by rw [hv]; exact .undef μ))

/-- IN WHATEVER ORDER. -/
theorem draw_any (hro : ROk ops) (hg : guardsOk ops = true) (ht : Trace P ops st val) (hchain : chained (Region.before ops) (effs P ops) = true) (hf : Fresh μ0 (st 0).h.next (st ops.size).h.next)
    (hpairs : ∀ i j oi oj, ops[i]? = some oi → ops[j]? = some oj → kindOf P oi.op = .R → isEff P oj = true → unordered (Region.before ops) i j = true → wantedA ops oi (st i).tmps = true →
      SemR P (evA (st i).tmps) oi (st j).h (val i) ∧ SemR P (evA (st i).tmps) oi (st (j + 1)).h (val i))
    {Q : Exit → Act → World → Prop} (hQ : ∀ μ' a' w', StOut μ0 base (st 0) w0 (st ops.size) a' w' μ' → Q .normal a' w') :
    ∀ (fuel : Nat) (listed : Array Bool) (todo : List Nat) (μ : Mu) (a : Act) (w : World) (g : Gm), listed.size = ops.size → (∀ k, k < ops.size → listed.getD k false = false → k ∈ todo) → todo.length ≤ fuel →
      Inv P ops st val μ0 base w0 (fun k => listed.getD k false) μ a w g → wpAny P .any ops Q fuel listed a w := by
  -- nothing is ready: all has been done
  have none_ready : ∀ (listed : Array Bool), listed.size = ops.size → Region.ready .any ops listed = [] → ∀ k, k < ops.size → listed.getD k false = true := by
    intro listed hsz hnil k
    induction k using Nat.strongRecOn with
    | _ k ih =>
      intro hk
      cases h : listed.getD k false with
      | true => rfl
      | false =>
        exfalso
        have hmem : k ∈ Region.ready .any ops listed := by
          rw [mem_ready]
          refine ⟨?_, ops[k], Array.getElem?_eq_getElem hk, fun e he hb => ih e.on (hro.edge (Array.getElem?_eq_getElem hk) he hb) (Nat.lt_trans (hro.edge (Array.getElem?_eq_getElem hk) he hb) hk)⟩
          have hlt : k < listed.size := by omega
          simp only [Array.getD_eq_getD_getElem?, Array.getElem?_eq_getElem hlt, Option.getD_some] at h ⊢
          exact h
        rw [hnil] at hmem; simp at hmem
  intro fuel
  induction fuel with
  | zero =>
    intro listed todo μ a w g hsz htodo hlen inv
    have hall : ∀ k, k < ops.size → listed.getD k false = true := by
      intro k hk
      cases h : listed.getD k false with
      | true => rfl
      | false =>
        have := htodo k hk h
        have h0 : todo = [] := List.eq_nil_of_length_eq_zero (by omega)
        rw [h0] at this; simp at this
    refine ⟨?_, hQ _ _ _ (inv.done ht hall)⟩
    rw [List.eq_nil_iff_forall_not_mem]
    intro k hk
    obtain ⟨h1, o, ho, _⟩ := mem_ready.1 hk
    have hkl := (Array.getElem?_eq_some_iff.1 ho).1
    have h2 := hall k hkl
    have hlt : k < listed.size := by omega
    simp only [Array.getD_eq_getD_getElem?, Array.getElem?_eq_getElem hlt, Option.getD_some] at h1 h2
    rw [h1] at h2; cases h2
  | succ fuel ih =>
    intro listed todo μ a w g hsz htodo hlen inv
    refine ⟨fun hnil => hQ _ _ _ (inv.done ht (none_ready listed hsz hnil)), fun i hi => ?_⟩
    obtain ⟨h1, o, ho, hedges⟩ := mem_ready.1 hi
    have hil := (Array.getElem?_eq_some_iff.1 ho).1
    have hlt : i < listed.size := by omega
    have hL : listed.getD i false = false := by
      simp only [Array.getD_eq_getD_getElem?, Array.getElem?_eq_getElem hlt, Option.getD_some] at h1 ⊢
      exact h1
    have hL' : ∀ k, (listed.setIfInBounds i true).getD k false = (listed.getD k false || k == i) := by
      intro k
      simp only [Array.getD_eq_getD_getElem?, Array.getElem?_setIfInBounds]
      by_cases e : i = k
      · subst e; simp [hlt]
      · have : (k == i) = false := by simp; exact fun h => e h.symm
        simp [e, this]
    refine inv.step hro hg ht hchain hf hpairs ho hL hedges (L' := fun k => (listed.setIfInBounds i true).getD k false) hL' fun μ' a' w' g' inv' => ?_
    have hmem := htodo i hil hL
    refine ih (listed.setIfInBounds i true) (todo.erase i) μ' a' w' g' (by simp [hsz]) (fun k hk hLk => ?_) (by rw [List.length_erase_of_mem hmem]; omega) inv'
    rw [hL'] at hLk
    simp only [Bool.or_eq_false_iff, beq_eq_false_iff_ne] at hLk
    exact (List.mem_erase_of_ne hLk.2).2 (htodo k hk hLk.1)
end

section
variable {P : Program}

/-- Only what is drawn has turned. -/
theorem Sim.drew {μ : Mu} {base : Nat} {g : Gm} {w : World} (hr : Rel μ base g w) : Sim μ base g w μ g { w with drawn := w.drawn + 1 } :=
  ⟨Mu.le_refl μ, ⟨hr.size, fun b p x hb hx => (hr.blk b p x hb hx).keep (Mu.le_refl μ) rfl, hr.inj, hr.frz⟩, ⟨rfl, rfl, rfl, Nat.le_refl _, fun _ _ _ => rfl⟩, fun b p x hb hx => .inr ⟨b, p, x, hb, hx, id, rfl⟩, fun _ _ _ h => .inl h⟩

/-- A REGION WHOSE ORDER IS OPEN, from a run in the text's order. -/
theorem draw_core (hm : P.follows .mixedOrders = true) {ops : Array Oper} (hro : ROk ops) {st : Nat → St} {val : Nat → Value} (hst : staticOk P ops = true) (ht : Trace P ops st val)
    (hpairs : ∀ i j oi oj, ops[i]? = some oi → ops[j]? = some oj → kindOf P oi.op = .R → isEff P oj = true → unordered (Region.before ops) i j = true → wantedA ops oi (st i).tmps = true →
      SemR P (evA (st i).tmps) oi (st j).h (val i) ∧ SemR P (evA (st i).tmps) oi (st (j + 1)).h (val i)) :
    (st 0).h.next ≤ (st ops.size).h.next ∧ ∀ {id : Nat} {Q : Exit → Act → World → Prop} {μ : Mu} {base : Nat} {a : Act} {w : World}, TR μ (st 0).tmps a.tmps → a.defers = [] →
      Rel μ base (st 0).h.get w → Fresh μ (st 0).h.next (st ops.size).h.next → (∀ a' w' μ', StOut μ base (st 0) w (st ops.size) a' w' μ' → Q .normal a' w') → (Code.region id ops true).wp P Q a w := by
  unfold staticOk at hst
  simp only [Bool.and_eq_true] at hst
  refine ⟨ht.next (Nat.zero_le _) (Nat.le_refl _), fun {id Q μ base a w} htm hd hrel hf hq => ?_⟩
  refine wp_region_any hm ?_
  refine draw_any (w0 := w) hro hst.1 ht hst.2 hf hpairs (fun μ' a' w' h => hq a' w' μ' h) ops.size _ (List.range ops.size) μ a _ (st 0).h.get (by simp) (fun k hk _ => by simpa using hk) (by simp) ?_
  have hrep : ∀ k, (Array.replicate ops.size false).getD k false = false := by
    intro k
    simp only [Array.getD_eq_getD_getElem?, Array.getElem?_replicate]
    split <;> rfl
  have hnone : tmL ops (st 0).tmps val (fun k => (Array.replicate ops.size false).getD k false) ops.size = (st 0).tmps := by
    have : ∀ m, tmL ops (st 0).tmps val (fun k => (Array.replicate ops.size false).getD k false) m = (st 0).tmps := by
      intro m
      induction m with
      | zero => rfl
      | succ m ih =>
        unfold tmL
        rw [hrep m, if_neg (by simp)]
        exact ih
    exact this _
  refine ⟨fun j o e h => ?_, by rw [hnone]; exact htm, hd, Sim.drew hrel, fun b hb => absurd rfl hb, fun b p x blk hpb hx hat hget => ?_, fun i j o _ _ _ _ hL => ?_, fun j o _ _ hL => ?_⟩
  · have h' : (Array.replicate ops.size false).getD j false = true := h
    rw [hrep j] at h'; cases h'
  · -- nothing has been done: no effect stands ahead of the place
    have hlt := Hp.lt_of_get hget
    have hb0 : b < (st 0).h.next := by
      rcases Nat.lt_or_ge b (st 0).h.next with h | h
      · exact h
      · have := hf b h (Nat.lt_of_lt_of_le hlt (ht.next hx (Nat.le_refl _)))
        rw [this] at hpb; cases hpb
    have := ht.stays x (Nat.zero_le _) hx hb0 (fun k o _ hkx ho he => by
      rcases hat.2 k o ho he hkx with h | h
      · have h' : (Array.replicate ops.size false).getD k false = true := h
        rw [hrep k] at h'; cases h'
      · have := ht.next (i := 0) (j := k + 1) (by omega) (by omega); omega)
    rw [this] at hget; exact hget
  · have h' : (Array.replicate ops.size false).getD j false = true := hL
    rw [hrep j] at h'; cases h'
  · have h' : (Array.replicate ops.size false).getD j false = true := hL
    rw [hrep j] at h'; cases h'

theorem draw_sound (hm : P.follows .mixedOrders = true) {chk : Chk} (hchk : ∀ a b, chk a b = true → a = b) {call : Caller} (hc : CallOk P call) {ops : Array Oper} (hro : ROk ops) {s s' : St}
    (e : runDraw chk P call ops s = some s') : s.h.next ≤ s'.h.next ∧ ∀ {id : Nat} {Q : Exit → Act → World → Prop} {μ : Mu} {base : Nat} {a : Act} {w : World}, TR μ s.tmps a.tmps → a.defers = [] →
      Rel μ base s.h.get w → Fresh μ s.h.next s'.h.next → (∀ a' w' μ', StOut μ base s w s' a' w' μ' → Q .normal a' w') → (Code.region id ops true).wp P Q a w := by
  unfold runDraw at e
  split at e
  · rename_i hst
    split at e
    · rename_i tr htr
      split at e
      · rename_i hp
        obtain ⟨vs, hrun⟩ := run_of hc htr
        obtain ⟨st, val, ht, hs0, htr', _, hD⟩ := trace_fun hrun
        have hs' : s' = st ops.size := by
          rw [htr' ops.size (Nat.le_refl _)] at e
          simp at e; exact e.symm
        subst hs'
        subst hs0
        refine draw_core hm hro hst ht ?_
        intro i j oi oj hi hj hk he hun hw
        have hmem : (i, j) ∈ drawPairs P ops := by
          unfold drawPairs
          rw [List.mem_flatMap]
          refine ⟨i, (mem_reads hi).2 (by unfold isRead; rw [hk]), ?_⟩
          rw [List.mem_map]
          exact ⟨j, List.mem_filter.2 ⟨(mem_effs hj).2 he, hun⟩, rfl⟩
        have h1 := List.all_eq_true.1 hp (i, j) hmem
        have hil := (Array.getElem?_eq_some_iff.1 hi).1
        have hjl := (Array.getElem?_eq_some_iff.1 hj).1
        unfold pairOk at h1
        simp only [hi, htr' i (by omega), htr' j (by omega), htr' (j + 1) (by omega), hw, Bool.not_true, Bool.false_or, Bool.and_eq_true] at h1
        have hval : stepR P (evA (st i).tmps) oi (st i).h = some (val i) := by
          have h2 := hD i oi hi hw
          unfold stepO at h2
          split at h2
          · rw [hk] at h2
            cases e2 : stepR P (evA (st i).tmps) oi (st i).h with
            | none => simp [e2] at h2
            | some u => simp [e2] at h2; rw [h2.1]
          · cases h2
        have fin : ∀ x, sameRead chk P oi (st i) (st x) = true → SemR P (evA (st i).tmps) oi (st x).h (val i) := by
          intro x hx
          unfold sameRead at hx
          rw [hval] at hx
          cases e2 : stepR P (evA (st i).tmps) oi (st x).h with
          | none => simp [e2] at hx
          | some u =>
            simp [e2] at hx
            rw [hchk _ _ hx]
            exact fun {μ base w ρ'} hr hrel => simR hk e2 hr hrel
        exact ⟨fin j h1.1, fin (j + 1) h1.2⟩
      · cases e
    · cases e
  · cases e
end
end Go.Abs
