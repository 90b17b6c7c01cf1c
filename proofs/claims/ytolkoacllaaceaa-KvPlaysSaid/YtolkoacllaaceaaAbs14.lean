/-
  A REGION WHOSE ORDER IS OPEN: what comes before what; the slots, whatever the order.
-/
import Derived.Test.YtolkoacllaaceaaAbs13
namespace Go.Abs
open Go

section before
variable {ops : Array Oper}

def befOf (acc : Array Nat) (o : Oper) : Nat :=
  o.after.foldl (fun s e => if Region.binds .any e then s ||| 2 ^ e.on ||| acc.getD e.on 0 else s) 0

theorem before_list : ∀ (l : List Oper) (acc : Array Nat), ∃ r : Array Nat, l.foldl (fun acc o => acc.push (befOf acc o)) acc = r ∧ r.size = acc.size + l.length ∧
    (∀ i, i < acc.size → r.getD i 0 = acc.getD i 0) ∧ ∀ k o, l[k]? = some o → ∃ acc' : Array Nat, acc'.size = acc.size + k ∧ (∀ i, i < acc.size + k → acc'.getD i 0 = r.getD i 0) ∧ r.getD (acc.size + k) 0 = befOf acc' o
  | [], acc => ⟨acc, rfl, by simp, fun _ _ => rfl, fun k o h => by simp at h⟩
  | o :: l, acc => by
    obtain ⟨r, h1, h2, h3, h4⟩ := before_list l (acc.push (befOf acc o))
    have hp : ∀ i, i < acc.size → (acc.push (befOf acc o)).getD i 0 = acc.getD i 0 := by
      intro i hi
      simp only [Array.getD_eq_getD_getElem?, Array.getElem?_push]
      rw [if_neg (by omega)]
    refine ⟨r, by rw [List.foldl_cons]; exact h1, by simp at h2 ⊢; omega, fun i hi => ?_, fun k o' hk => ?_⟩
    · rw [h3 i (by simp; omega), hp i hi]
    · cases k with
      | zero =>
        simp at hk; subst hk
        refine ⟨acc, rfl, fun i hi => ?_, ?_⟩
        · rw [h3 i (by simp; omega), hp i (by omega)]
        · rw [Nat.add_zero, h3 acc.size (by simp)]
          simp [Array.getD_eq_getD_getElem?]
      | succ k =>
        simp at hk
        obtain ⟨acc', h5, h6, h7⟩ := h4 k o' hk
        simp only [Array.size_push] at h5 h6 h7
        exact ⟨acc', by omega, fun i hi => h6 i (by omega), by rw [show acc.size + (k + 1) = acc.size + 1 + k from by omega]; exact h7⟩

theorem before_spec {j : Nat} {o : Oper} (hj : ops[j]? = some o) : ∃ acc' : Array Nat, (∀ i, i < j → acc'.getD i 0 = (Region.before ops).getD i 0) ∧ (Region.before ops).getD j 0 = befOf acc' o := by
  obtain ⟨r, h1, h2, h3, h4⟩ := before_list ops.toList #[]
  have hb : Region.before ops = r := by
    rw [← h1]; unfold Region.before; rw [← Array.foldl_toList]; rfl
  obtain ⟨acc', h5, h6, h7⟩ := h4 j o (by rw [Array.getElem?_toList]; exact hj)
  simp only [List.size_toArray, List.length_nil, Nat.zero_add] at h5 h6 h7
  rw [hb]
  exact ⟨acc', fun i hi => h6 i hi, h7⟩

theorem testBit_fold (acc : Array Nat) (i : Nat) : ∀ (l : List Edge) (s : Nat), (l.foldl (fun s e => if Region.binds .any e then s ||| 2 ^ e.on ||| acc.getD e.on 0 else s) s).testBit i = true →
    s.testBit i = true ∨ ∃ e ∈ l, Region.binds .any e = true ∧ (i = e.on ∨ (acc.getD e.on 0).testBit i = true)
  | [], s, h => .inl h
  | e :: l, s, h => by
    rw [List.foldl_cons] at h
    rcases testBit_fold acc i l _ h with h1 | ⟨e', h1, h2⟩
    · split at h1
      · rename_i hb
        rw [Nat.testBit_or, Nat.testBit_or] at h1
        simp only [Bool.or_eq_true] at h1
        rcases h1 with (h1 | h1) | h1
        · exact .inl h1
        · refine .inr ⟨e, by simp, hb, .inl ?_⟩
          rw [Nat.testBit_two_pow] at h1
          simpa using (of_decide_eq_true h1).symm
        · exact .inr ⟨e, by simp, hb, .inr h1⟩
      · exact .inl h1
    · exact .inr ⟨e', by simp [h1], h2⟩

/-- What comes before an operation comes before it by an edge of its own, or before one that does. -/
theorem ordered_edge {i j : Nat} {o : Oper} (hj : ops[j]? = some o) (hlt : ∀ e ∈ o.after, Region.binds .any e = true → e.on < j) (h : ordered (Region.before ops) i j = true) :
    ∃ e ∈ o.after, Region.binds .any e = true ∧ (i = e.on ∨ ordered (Region.before ops) i e.on = true) := by
  obtain ⟨acc', h1, h2⟩ := before_spec hj
  unfold ordered at h
  rw [h2] at h
  unfold befOf at h
  rw [← Array.foldl_toList] at h
  rcases testBit_fold acc' i _ _ h with h3 | ⟨e, h3, h4, h5⟩
  · simp at h3
  · refine ⟨e, by simpa using h3, h4, ?_⟩
    rcases h5 with h5 | h5
    · exact .inl h5
    · right
      unfold ordered
      rw [← h1 e.on (hlt e (by simpa using h3) h4)]
      exact h5

end before

/-- What Region.ok says. -/
structure ROk (ops : Array Oper) : Prop where
  edge : ∀ {j : Nat} {o : Oper} {e : Edge}, ops[j]? = some o → e ∈ o.after → Region.binds .any e = true → e.on < j
  guard : ∀ {j : Nat} {o : Oper} {g : Nat} {want : Bool}, ops[j]? = some o → o.guard = some (g, want) → ∃ e ∈ o.after, e.on = g ∧ Region.binds .any e = true
  temps : Region.temporariesOk ops (Region.before ops) = true

theorem rok_of {types : Array TypeInfo} {ops : Array Oper} {d : Bool} (h : Region.ok types ops d = true) : ROk ops := by
  unfold Region.ok at h
  simp only [Bool.and_eq_true] at h
  obtain ⟨⟨⟨⟨h1, h2⟩, _⟩, _⟩, _⟩ := h
  have key : ∀ {j : Nat} {o : Oper}, ops[j]? = some o → (o.after.all (fun e => e.on < j || (match e.ground with | .gcOnly _ => e.on != j && e.on < ops.size | _ => false)) = true) ∧
      (match o.guard with | none => true | some (k, _) => o.after.any (fun e => e.on == k && Region.binds .any e) && ((ops[k]?).bind (·.dst)).isSome) = true := by
    intro j o hj
    have hm : (o, j) ∈ ops.zipIdx := by
      rw [Array.mem_zipIdx_iff_getElem?]
      simpa using hj
    have := Array.all_eq_true_iff_forall_mem.1 h1 (o, j) hm
    simp only [Bool.and_eq_true] at this
    exact this
  refine ⟨fun {j o e} hj he hb => ?_, fun {j o g want} hj hg => ?_, h2⟩
  · have := Array.all_eq_true_iff_forall_mem.1 (key hj).1 e he
    simp only [Bool.or_eq_true, decide_eq_true_eq] at this
    rcases this with h3 | h3
    · exact h3
    · exfalso
      unfold Region.binds at hb
      cases hgr : e.ground <;> simp [hgr] at h3 hb
  · have := (key hj).2
    rw [hg] at this
    simp only [Bool.and_eq_true] at this
    obtain ⟨i, hi, h3⟩ := Array.any_eq_true.1 this.1
    simp only [Bool.and_eq_true, beq_iff_eq] at h3
    exact ⟨o.after[i], Array.getElem_mem hi, h3.1, h3.2⟩

/-- The slots that an operation names. -/
def opNames (o : Oper) : List Tmp := o.dst.toList ++ o.op.operands.toList.filterMap fun | .tmp t => some t | _ => none

theorem writers_fold (n : Nat) : ∀ (l : List (Oper × Nat)) (w : Array (List (Tmp × Nat))), w.size = n → 0 < n →
    (∀ d i, (d, i) ∈ w.getD (d % n) [] → (d, i) ∈ (l.foldl (fun w (x : Oper × Nat) => match x.1.dst with | some d => w.modify (d % n) ((d, x.2) :: ·) | none => w) w).getD (d % n) []) ∧
    (∀ o i d, (o, i) ∈ l → o.dst = some d → (d, i) ∈ (l.foldl (fun w (x : Oper × Nat) => match x.1.dst with | some d => w.modify (d % n) ((d, x.2) :: ·) | none => w) w).getD (d % n) [])
  | [], w, _, _ => ⟨fun d i h => h, fun o i d h => by simp at h⟩
  | (o, k) :: l, w, hw, hn => by
    have hstep : ∀ d i, (d, i) ∈ w.getD (d % n) [] ∨ (o.dst = some d ∧ i = k) → (d, i) ∈ (match o.dst with | some d => w.modify (d % n) ((d, k) :: ·) | none => w).getD (d % n) [] := by
      intro d i h
      cases hd : o.dst with
      | none =>
        rcases h with h | ⟨h, _⟩
        · exact h
        · rw [hd] at h; cases h
      | some d0 =>
        have hlt : d0 % n < w.size := by rw [hw]; exact Nat.mod_lt _ hn
        have hlt' : d % n < w.size := by rw [hw]; exact Nat.mod_lt _ hn
        simp only [Array.getD_eq_getD_getElem?, Array.getElem?_modify]
        rcases h with h | ⟨h, rfl⟩
        · simp only [Array.getD_eq_getD_getElem?] at h
          by_cases e : d0 % n = d % n
          · rw [if_pos e]
            rw [Array.getElem?_eq_getElem hlt'] at h ⊢
            simp at h ⊢
            exact .inr h
          · rw [if_neg e]; exact h
        · rw [hd] at h; simp at h; subst h
          rw [if_pos rfl, Array.getElem?_eq_getElem hlt]
          simp
    have hsz : (match o.dst with | some d => w.modify (d % n) ((d, k) :: ·) | none => w).size = n := by
      cases o.dst <;> simp [hw]
    obtain ⟨h1, h2⟩ := writers_fold n l _ hsz hn
    refine ⟨fun d i h => ?_, fun o' i d hm hd => ?_⟩
    · rw [List.foldl_cons]; exact h1 d i (hstep d i (.inl h))
    · rw [List.foldl_cons]
      rcases List.mem_cons.1 hm with h | h
      · simp only [Prod.mk.injEq] at h
        obtain ⟨rfl, rfl⟩ := h
        exact h1 d i (hstep d i (.inr ⟨hd, rfl⟩))
      · exact h2 o' i d h hd

/-- Who writes a slot and who names it are in an order. -/
theorem temps_spec {ops : Array Oper} (h : ROk ops) {i j : Nat} {oi oj : Oper} {t : Tmp} (hi : ops[i]? = some oi) (hj : ops[j]? = some oj) (hd : oi.dst = some t) (hn : t ∈ opNames oj) :
    i = j ∨ ordered (Region.before ops) (min i j) (max i j) = true := by
  have ht := h.temps
  unfold Region.temporariesOk at ht
  simp only at ht
  have hpos : 0 < ops.size := by
    have := (Array.getElem?_eq_some_iff.1 hi).1; omega
  have hmj : (oj, j) ∈ ops.toList.zipIdx := by
    rw [List.mem_zipIdx_iff_getElem?]; simpa using hj
  have hmi : (oi, i) ∈ ops.toList.zipIdx := by
    rw [List.mem_zipIdx_iff_getElem?]; simpa using hi
  have h1 := List.all_eq_true.1 ht (oj, j) hmj
  have h2 := List.all_eq_true.1 h1 t hn
  have hw := (writers_fold ops.size ops.toList.zipIdx (Array.replicate ops.size []) (by simp) hpos).2 oi i t hmi hd
  have h3 := List.all_eq_true.1 h2 (t, i) hw
  simp only [bne_self_eq_false, Bool.false_or, Bool.or_eq_true, beq_iff_eq] at h3
  rcases h3 with h3 | h3
  · exact .inl h3
  · exact .inr h3

/-- The slots behind some of the operations, in the text's order. -/
def tmL (ops : Array Oper) (s0 : List Value) (val : Nat → Value) (L : Nat → Bool) : Nat → List Value
  | 0 => s0
  | k + 1 => if L k then (match (ops[k]?).bind (·.dst) with | some d => (tmL ops s0 val L k).set d (val k) | none => tmL ops s0 val L k) else tmL ops s0 val L k

theorem tmL_len (ops : Array Oper) (s0 : List Value) (val : Nat → Value) (L : Nat → Bool) : ∀ m, (tmL ops s0 val L m).length = s0.length
  | 0 => rfl
  | m + 1 => by
    unfold tmL
    split
    · split <;> simp [tmL_len ops s0 val L m]
    · exact tmL_len ops s0 val L m

/-- A slot depends on who writes it alone. -/
theorem tmL_get (ops : Array Oper) (s0 : List Value) (val : Nat → Value) {L L' : Nat → Bool} (t : Nat) : ∀ m m', (∀ k, k < m → (ops[k]?).bind (·.dst) = some t → L k = true → k < m' ∧ L' k = true) →
    (∀ k, k < m' → (ops[k]?).bind (·.dst) = some t → L' k = true → k < m ∧ L k = true) → (tmL ops s0 val L m)[t]? = (tmL ops s0 val L' m')[t]? := by
  intro m
  induction m with
  | zero =>
    intro m'
    induction m' with
    | zero => intro _ _; rfl
    | succ m' ih =>
      intro h1 h2
      have ih := ih (fun k hk => by omega) (fun k hk hd hL => h2 k (by omega) hd hL)
      rw [ih]
      show _ = (tmL ops s0 val L' (m' + 1))[t]?
      conv => rhs; unfold tmL
      split
      · rename_i hL
        split
        · rename_i d hd
          rw [List.getElem?_set]
          split
          · rename_i e
            subst e
            have := h2 m' (by omega) hd hL
            omega
          · rfl
        · rfl
      · rfl
  | succ m ih =>
    intro m' h1 h2
    by_cases hm : (ops[m]?).bind (·.dst) = some t ∧ L m = true
    · -- the last writer of the one is a writer of the other: cut the other down to it
      obtain ⟨hd, hL⟩ := hm
      obtain ⟨hlt, hL'⟩ := h1 m (by omega) hd hL
      -- behind m no writer of the other
      have cut : ∀ q, m < q → q ≤ m' → (tmL ops s0 val L' q)[t]? = (tmL ops s0 val L' (m + 1))[t]? := by
        intro q
        induction q with
        | zero => intro h; omega
        | succ q ihq =>
          intro hq hq'
          by_cases e : q = m
          · subst e; rfl
          · rw [← ihq (by omega) (by omega)]
            conv => lhs; unfold tmL
            split
            · rename_i hLq
              split
              · rename_i d hdq
                rw [List.getElem?_set]
                split
                · rename_i e'
                  subst e'
                  have := h2 q (by omega) hdq hLq
                  omega
                · rfl
              · rfl
            · rfl
      rw [cut m' (by omega) (Nat.le_refl _)]
      conv => lhs; unfold tmL
      conv => rhs; unfold tmL
      rw [if_pos hL, if_pos hL', hd]
      simp only
      rw [List.getElem?_set, List.getElem?_set, tmL_len, tmL_len, if_pos rfl, if_pos rfl]
    · have ih := ih m' (fun k hk hd hL => h1 k (by omega) hd hL) (fun k hk hd hL => by
        obtain ⟨h3, h4⟩ := h2 k hk hd hL
        refine ⟨?_, h4⟩
        by_cases e : k = m
        · subst e; exact absurd ⟨hd, h4⟩ hm
        · omega)
      rw [← ih]
      conv => lhs; unfold tmL
      split
      · rename_i hL
        split
        · rename_i d hd
          rw [List.getElem?_set]
          split
          · rename_i e; subst e; exact absurd ⟨hd, hL⟩ hm
          · rfl
        · rfl
      · rfl

/-- One operation more. -/
theorem tmL_upd (ops : Array Oper) (s0 : List Value) (val : Nat → Value) {L L' : Nat → Bool} {i n : Nat} {o : Oper} (hi : i < n) (ho : ops[i]? = some o) (hL : L i = false) (hL' : ∀ k, L' k = (L k || k == i))
    (hlate : ∀ k d, i < k → k < n → L k = true → o.dst = some d → (ops[k]?).bind (·.dst) ≠ some d) :
    tmL ops s0 val L' n = (match o.dst with | some d => (tmL ops s0 val L n).set d (val i) | none => tmL ops s0 val L n) := by
  have low : ∀ m, m ≤ i → tmL ops s0 val L' m = tmL ops s0 val L m := by
    intro m
    induction m with
    | zero => intro _; rfl
    | succ m ih =>
      intro hm
      unfold tmL
      rw [hL' m, ih (by omega)]
      have : (m == i) = false := by simp; omega
      rw [this, Bool.or_false]
  have high : ∀ m, i < m → m ≤ n → tmL ops s0 val L' m = (match o.dst with | some d => (tmL ops s0 val L m).set d (val i) | none => tmL ops s0 val L m) := by
    intro m
    induction m with
    | zero => intro h; omega
    | succ m ih =>
      intro h hm
      by_cases e : m = i
      · subst e
        have hs : tmL ops s0 val L' (m + 1) = (match o.dst with | some d => (tmL ops s0 val L m).set d (val m) | none => tmL ops s0 val L m) := by
          conv => lhs; unfold tmL
          rw [hL' m, low m (Nat.le_refl _), ho]
          simp only [beq_self_eq_true, Bool.or_true, if_true, Option.bind_some]
        have hs2 : tmL ops s0 val L (m + 1) = tmL ops s0 val L m := by
          conv => lhs; unfold tmL
          rw [hL]; simp
        rw [hs, hs2]
      · have ih := ih (by omega) (by omega)
        have hne : (m == i) = false := by simp; exact e
        conv => lhs; unfold tmL
        rw [hL' m, hne, Bool.or_false, ih]
        cases hLm : L m with
        | false =>
          have hs2 : tmL ops s0 val L (m + 1) = tmL ops s0 val L m := by
            conv => lhs; unfold tmL
            rw [hLm]; simp
          rw [hs2]
          simp
        | true =>
          have hs2 : tmL ops s0 val L (m + 1) = (match (ops[m]?).bind (·.dst) with | some d => (tmL ops s0 val L m).set d (val m) | none => tmL ops s0 val L m) := by
            conv => lhs; unfold tmL
            rw [hLm]; simp
          rw [hs2]
          simp only [if_true]
          cases hdm : (ops[m]?).bind (·.dst) with
          | none => rfl
          | some d =>
            cases hod : o.dst with
            | none => rfl
            | some d' =>
              have hne' : d ≠ d' := fun e' => hlate m d' (by omega) (by omega) hLm hod (by rw [hdm, e'])
              simp only
              rw [List.set_comm _ _ hne']
  exact high n hi (Nat.le_refl _)

theorem chained_spec {b : Array Nat} : ∀ {l : List Nat}, chained b l = true → l.Pairwise (fun i j => ordered b i j = true)
  | [], _ => List.Pairwise.nil
  | i :: r, h => by
    unfold chained at h
    simp only [Bool.and_eq_true, List.all_eq_true] at h
    exact List.Pairwise.cons h.1 (chained_spec h.2)

/-- Effects are in an order. -/
theorem effs_ordered {P : Program} {ops : Array Oper} (h : chained (Region.before ops) (effs P ops) = true) {i j : Nat} (hij : i < j) (hi : i ∈ effs P ops) (hj : j ∈ effs P ops) :
    ordered (Region.before ops) i j = true := by
  have hp := chained_spec h
  have hs : (effs P ops).Pairwise (· < ·) := List.Pairwise.filter _ List.pairwise_lt_range
  have : ∀ l : List Nat, l.Pairwise (fun i j => ordered (Region.before ops) i j = true) → l.Pairwise (· < ·) → i ∈ l → j ∈ l → ordered (Region.before ops) i j = true := by
    intro l
    induction l with
    | nil => intro _ _ h; simp at h
    | cons a l ih =>
      intro h1 h2 hi hj
      rw [List.pairwise_cons] at h1 h2
      rcases List.mem_cons.1 hi with rfl | hi
      · rcases List.mem_cons.1 hj with rfl | hj
        · omega
        · exact h1.1 j hj
      · rcases List.mem_cons.1 hj with rfl | hj
        · have := h2.1 i (by assumption); omega
        · exact ih h1.2 h2.2 hi hj
  exact this _ hp hs hi hj

theorem mem_effs {P : Program} {ops : Array Oper} {j : Nat} {o : Oper} (hj : ops[j]? = some o) : j ∈ effs P ops ↔ isEff P o = true := by
  unfold effs
  rw [List.mem_filter, List.mem_range]
  have := (Array.getElem?_eq_some_iff.1 hj).1
  rw [hj]
  simp [this]
theorem mem_reads {P : Program} {ops : Array Oper} {j : Nat} {o : Oper} (hj : ops[j]? = some o) : j ∈ reads P ops ↔ isRead P o = true := by
  unfold reads
  rw [List.mem_filter, List.mem_range]
  have := (Array.getElem?_eq_some_iff.1 hj).1
  rw [hj]
  simp [this]
end Go.Abs
