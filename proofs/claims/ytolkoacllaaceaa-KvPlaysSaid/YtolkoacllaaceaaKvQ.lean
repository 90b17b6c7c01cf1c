/-
  KV: ordered pairs, in plain Lean.
-/
import Derived.Test.YtolkoacllaaceaaKvM
namespace Go.Proofs.Ytolkoacllaaceaa
open Go.RowKit Go.Abs Go
theorem u8_lt (a b : UInt8) : a < b ↔ a.toNat < b.toNat := UInt8.lt_iff_toNat_lt
theorem u8_eq (a b : UInt8) : a = b ↔ a.toNat = b.toNat := UInt8.toNat_inj.symm
theorem less_iff : ∀ a b : List UInt8, Op.bytesLess a b = true ↔ Lib.compareBytes a b < 0
  | [], [] => by simp [Op.bytesLess, Lib.compareBytes]
  | [], _ :: _ => by simp [Op.bytesLess, Lib.compareBytes]
  | _ :: _, [] => by simp [Op.bytesLess, Lib.compareBytes]
  | a :: x, b :: y => by
    have ih := less_iff x y
    unfold Op.bytesLess Lib.compareBytes
    simp only [Bool.or_eq_true, decide_eq_true_eq, Bool.and_eq_true, beq_iff_eq]
    rw [ih]
    by_cases h1 : a < b
    · simp [h1]
    · by_cases h2 : b < a
      · have : a ≠ b := fun e => by subst e; rw [u8_lt] at h2; omega
        simp [h1, h2, this]
      · have : a = b := by rw [u8_lt] at h1 h2; rw [u8_eq]; omega
        subst this
        simp [h1]
theorem cmp_zero : ∀ a b : List UInt8, Lib.compareBytes a b = 0 ↔ a = b
  | [], [] => by simp [Lib.compareBytes]
  | [], _ :: _ => by simp [Lib.compareBytes]
  | _ :: _, [] => by simp [Lib.compareBytes]
  | a :: x, b :: y => by
    have ih := cmp_zero x y
    unfold Lib.compareBytes
    by_cases h1 : a < b
    · have : a ≠ b := fun e => by subst e; rw [u8_lt] at h1; omega
      simp [h1, this]
    · by_cases h2 : b < a
      · have : a ≠ b := fun e => by subst e; rw [u8_lt] at h2; omega
        simp [h1, h2, this]
      · have : a = b := by rw [u8_lt] at h1 h2; rw [u8_eq]; omega
        subst this
        simp [h1, ih]
theorem less_trans : ∀ {a b c : List UInt8}, Op.bytesLess a b = true → Op.bytesLess b c = true → Op.bytesLess a c = true
  | _, [], _, h, _ => by cases ‹List UInt8› <;> simp [Op.bytesLess] at h
  | _, _ :: _, [], _, h => by simp [Op.bytesLess] at h
  | [], _ :: _, _ :: _, _, _ => rfl
  | a :: x, b :: y, c :: z, h1, h2 => by
    unfold Op.bytesLess at h1 h2 ⊢
    simp only [Bool.or_eq_true, decide_eq_true_eq, Bool.and_eq_true, beq_iff_eq] at h1 h2 ⊢
    rcases h1 with h1 | ⟨rfl, h1⟩
    · rcases h2 with h2 | ⟨rfl, h2⟩
      · left; rw [u8_lt] at h1 h2 ⊢; omega
      · exact .inl h1
    · rcases h2 with h2 | ⟨rfl, h2⟩
      · exact .inl h2
      · exact .inr ⟨rfl, less_trans h1 h2⟩
theorem less_total : ∀ {a b : List UInt8}, Op.bytesLess a b = false → Op.bytesLess b a = true ∨ a = b
  | [], [], _ => .inr rfl
  | [], _ :: _, h => by simp [Op.bytesLess] at h
  | _ :: _, [], _ => .inl rfl
  | a :: x, b :: y, h => by
    unfold Op.bytesLess at h ⊢
    simp only [Bool.or_eq_false_iff, decide_eq_false_iff_not, Bool.and_eq_false_iff, beq_eq_false_iff_ne] at h
    obtain ⟨h1, h2⟩ := h
    simp only [Bool.or_eq_true, decide_eq_true_eq, Bool.and_eq_true, beq_iff_eq, List.cons.injEq]
    by_cases e : a = b
    · subst e
      rcases h2 with h2 | h2
      · exact absurd rfl h2
      · rcases less_total h2 with h3 | h3
        · exact .inl (.inr ⟨rfl, h3⟩)
        · exact .inr ⟨rfl, h3⟩
    · left; left
      rw [u8_eq] at e; rw [u8_lt] at h1 ⊢; omega
theorem less_irrefl : ∀ a : List UInt8, Op.bytesLess a a = false
  | [] => rfl
  | a :: x => by
    have ih := less_irrefl x
    unfold Op.bytesLess
    rw [ih]
    have : ¬ a < a := by rw [u8_lt]; omega
    simp
theorem lt_trans {a b c : ByteArray} (h1 : ltB a b = true) (h2 : ltB b c = true) : ltB a c = true := less_trans h1 h2
theorem lt_irrefl (a : ByteArray) : ltB a a = false := less_irrefl _
theorem lt_total {a b : ByteArray} (h : ltB a b = false) : ltB b a = true ∨ a = b := by
  rcases less_total h with h | h
  · exact .inl h
  · exact .inr (eqB_iff.1 (by unfold eqB; rw [h]; exact beq_self_eq_true _))
theorem lt_cmp (a b : ByteArray) : decide (cmpB a b < 0) = ltB a b := by
  have := less_iff a.data.toList b.data.toList
  unfold cmpB ltB
  cases h : Op.bytesLess a.data.toList b.data.toList with
  | true => exact decide_eq_true (this.1 h)
  | false => exact decide_eq_false fun h2 => by rw [this.2 h2] at h; cases h
theorem eq_cmp (a b : ByteArray) : (cmpB a b == 0) = eqB a b := by
  have := cmp_zero a.data.toList b.data.toList
  unfold cmpB eqB
  rw [Bool.eq_iff_iff, beq_iff_eq, beq_iff_eq]; exact this
theorem lt_ne {a b : ByteArray} (h : ltB a b = true) : eqB a b = false := by
  cases e : eqB a b with
  | false => rfl
  | true => rw [eqB_iff.1 e, lt_irrefl] at h; cases h
theorem gt_ne {a b : ByteArray} (h : ltB a b = true) : eqB b a = false := by
  cases e : eqB b a with
  | false => rfl
  | true => rw [eqB_iff.1 e, lt_irrefl] at h; cases h

def keyV (x : Value) : ByteArray := dstr (fld x 0)
def valV (x : Value) : ByteArray := dstr (fld x 1)
def Wf (l : List Value) : Prop := ∀ x ∈ l, x = prV (keyV x) (valV x)
def RightL (l : List Value) : Prop := rightF mayF l = true ∧ Wf l
def Ord (l : List Value) : Prop := l.Pairwise fun x y => ltB (keyV x) (keyV y) = true
theorem kP_get {l : List Value} {i : Nat} (h : i < l.length) : kP l i = keyV l[i] := by
  unfold kP keyV
  rw [List.getD_eq_getElem?_getD, List.getElem?_eq_getElem h]; rfl
theorem vP_get {l : List Value} {i : Nat} (h : i < l.length) : vP l i = valV l[i] := by
  unfold vP valV
  rw [List.getD_eq_getElem?_getD, List.getElem?_eq_getElem h]; rfl
theorem right_iff (l : List Value) : rightF mayF l = true ↔ (∀ x ∈ l, mayF (keyV x) (valV x) = true) ∧ Ord l ∧ l.length ≤ 30 := by
  unfold rightF
  rw [Bool.and_eq_true, List.all_eq_true, decide_eq_true_eq]
  constructor
  · rintro ⟨h1, h2⟩
    have at' : ∀ i, i < l.length → rightAt mayF l i = true := fun i hi => h1 i (List.mem_range.2 hi)
    refine ⟨fun x hx => ?_, ?_, h2⟩
    · obtain ⟨i, hi, rfl⟩ := List.getElem_of_mem hx
      have := at' i hi
      unfold rightAt at this
      rw [Bool.and_eq_true, kP_get hi, vP_get hi] at this
      exact this.1
    · unfold Ord
      rw [List.pairwise_iff_getElem]
      have step : ∀ d i, ∀ (hi : i < l.length) (hj : i + d + 1 < l.length), ltB (keyV l[i]) (keyV l[i + d + 1]) = true := by
        intro d
        induction d with
        | zero =>
          intro i hi hj
          have := at' (i + 1) hj
          unfold rightAt at this
          rw [Bool.and_eq_true, Bool.or_eq_true, beq_iff_eq, Nat.add_sub_cancel, kP_get hi, kP_get hj] at this
          rcases this.2 with h | h
          · omega
          · exact h
        | succ d ih =>
          intro i hi hj
          have h3 := ih i hi (by omega)
          have := at' (i + d + 2) (by omega)
          unfold rightAt at this
          rw [Bool.and_eq_true, Bool.or_eq_true, beq_iff_eq, show i + d + 2 - 1 = i + d + 1 by omega, kP_get (by omega : i + d + 1 < l.length), kP_get (by omega : i + d + 2 < l.length)] at this
          rcases this.2 with h | h
          · omega
          · exact lt_trans h3 h
      intro i j hi hj hij
      obtain ⟨d, rfl⟩ : ∃ d, j = i + d + 1 := ⟨j - i - 1, by omega⟩
      exact step d i hi hj
  · rintro ⟨h1, h2, h3⟩
    refine ⟨fun i hi => ?_, h3⟩
    have hi := List.mem_range.1 hi
    unfold rightAt
    rw [Bool.and_eq_true, kP_get hi, vP_get hi]
    refine ⟨h1 _ (List.getElem_mem hi), ?_⟩
    rw [Bool.or_eq_true, beq_iff_eq]
    by_cases e : i = 0
    · exact .inl e
    · right
      rw [kP_get (by omega : i - 1 < l.length)]
      exact (List.pairwise_iff_getElem.1 h2) (i - 1) i (by omega) hi (by omega)
/-- Binary search in what is ordered. -/
theorem bsL_spec {p : Nat → Bool} {n : Nat} (hp : ∀ i j, i < j → j < n → p j = true → p i = true) : ∀ (f : Nat) (i j : Int), (j - i).toNat < f → 0 ≤ i → i ≤ j → j ≤ n → (∀ m : Nat, (m : Int) < i → p m = true) → (∀ m : Nat, j ≤ m → m < n → p m = false) →
    (∀ m : Nat, (m : Int) < bsL f p i j → p m = true) ∧ (∀ m : Nat, bsL f p i j ≤ m → m < n → p m = false)
  | 0, i, j, h, _, _, _, _, _ => by omega
  | f + 1, i, j, h, h0, h1, h2, h3, h4 => by
    unfold bsL
    split
    · split
      · rename_i hlt hm
        refine bsL_spec hp f _ _ (by omega) (by omega) (by omega) h2 (fun m hm' => ?_) h4
        by_cases e : m = ((i + j) / 2).toNat
        · rw [e]; exact hm
        · exact hp m ((i + j) / 2).toNat (by omega) (by omega) hm
      · rename_i hlt hm
        refine bsL_spec hp f _ _ (by omega) h0 (by omega) (by omega) h3 fun m hm1 hm2 => ?_
        cases hpm : p m with
        | false => rfl
        | true =>
          exfalso
          by_cases e : m = ((i + j) / 2).toNat
          · rw [e] at hpm; exact hm hpm
          · exact hm (hp ((i + j) / 2).toNat m (by omega) hm2 hpm)
    · exact ⟨fun m hm => h3 m hm, fun m h5 h6 => h4 m (by omega) h6⟩
section
variable {l : List Value} (k : ByteArray)
theorem mono_of (ho : Ord l) : ∀ i j, i < j → j < l.length → ltB (kP l j) k = true → ltB (kP l i) k = true := by
  intro i j hij hj h
  rw [kP_get (by omega)]
  rw [kP_get hj] at h
  exact lt_trans ((List.pairwise_iff_getElem.1 ho) i j (by omega) hj hij) h
theorem bs_rfirst (ho : Ord l) : bsF l k = rfirstF l k := by
  have hp : (fun m => decide (cmpB (kP l m) k < 0)) = fun m => ltB (kP l m) k := by funext m; exact lt_cmp _ _
  have hr := bsF_range l k
  unfold bsF at hr ⊢
  unfold rfirstF
  rw [hp] at hr ⊢
  obtain ⟨h1, h2⟩ := bsL_spec (mono_of k ho) (l.length + 1) 0 l.length (by omega) (by omega) (by omega) (by omega) (fun m hm => by omega) (fun m h1 h2 => by omega)
  rw [firstN_eq (i := (bsL (l.length + 1) (fun m => ltB (kP l m) k) 0 l.length).toNat) (by omega) (fun j hj => h1 j (by omega)) (fun hlt => h2 _ (by omega) hlt)]
  omega
theorem fd_eq (ho : Ord l) : fdF l k = (decide (rfirstF l k < (l.length : Int)) && eqB (kP l (rfirstF l k).toNat) k) := by
  unfold fdF
  rw [bs_rfirst k ho, eq_cmp]
/-- Where a key stands. -/
theorem split_at (ho : Ord l) : ∃ r : Nat, rfirstF l k = r ∧ r ≤ l.length ∧ (∀ x ∈ l.take r, ltB (keyV x) k = true) ∧ ((decide (rfirstF l k < (l.length : Int)) && eqB (kP l (rfirstF l k).toNat) k) = false → ∀ x ∈ l.drop r, ltB k (keyV x) = true) ∧
    ((decide (rfirstF l k < (l.length : Int)) && eqB (kP l (rfirstF l k).toNat) k) = true → ∃ h : r < l.length, keyV l[r] = k ∧ ∀ x ∈ l.drop (r + 1), ltB k (keyV x) = true) := by
  obtain ⟨_, h2, h3, h4⟩ := firstN_ok (fun i => ltB (kP l i) k) l.length 0
  generalize hR : firstN (fun i => ltB (kP l i) k) l.length 0 = r at h2 h3 h4
  have hrf : rfirstF l k = r := by unfold rfirstF; rw [hR]
  rw [hrf, Int.toNat_natCast]
  refine ⟨r, rfl, by omega, fun x hx => ?_, fun hn x hx => ?_, fun hy => ?_⟩
  · obtain ⟨i, hi, rfl⟩ := List.getElem_of_mem hx
    rw [List.length_take] at hi
    rw [List.getElem_take]
    have := h3 i (Nat.zero_le _) (by omega)
    rwa [kP_get (by omega)] at this
  · obtain ⟨i, hi, rfl⟩ := List.getElem_of_mem hx
    rw [List.length_drop] at hi
    rw [List.getElem_drop]
    have hlt : r < l.length := by omega
    have h5 := h4 (by omega)
    rw [kP_get hlt] at h5
    rw [decide_eq_true (by omega), Bool.true_and, kP_get hlt] at hn
    have h6 : ltB k (keyV l[r]) = true := by
      rcases lt_total h5 with h | h
      · exact h
      · rw [h] at hn; rw [eqB_iff.2 rfl] at hn; cases hn
    by_cases e : i = 0
    · subst e; exact h6
    · exact lt_trans h6 ((List.pairwise_iff_getElem.1 ho) r (r + i) hlt (by omega) (by omega))
  · rw [Bool.and_eq_true, decide_eq_true_eq] at hy
    have hlt : r < l.length := by omega
    have h6 : keyV l[r] = k := by have := eqB_iff.1 hy.2; rwa [kP_get hlt] at this
    refine ⟨hlt, h6, fun x hx => ?_⟩
    obtain ⟨i, hi, rfl⟩ := List.getElem_of_mem hx
    rw [List.length_drop] at hi
    rw [List.getElem_drop, ← h6]
    exact (List.pairwise_iff_getElem.1 ho) r (r + 1 + i) hlt (by omega) (by omega)
theorem delL_filter (hw : Wf l) : ∀ n, n ≤ l.length → delL l k n = (l.take n).filter fun x => !eqB (keyV x) k
  | 0, _ => by simp [delL]
  | n + 1, h => by
    have hx : l[n]? = some l[n] := List.getElem?_eq_getElem (by omega)
    have ih := delL_filter hw n (by omega)
    have e : prV (keyV l[n]) (valV l[n]) = l[n] := (hw _ (List.getElem_mem (by omega : n < l.length))).symm
    unfold delL
    rw [ih, List.take_add_one, hx, Option.toList_some, List.filter_append, kP_get (by omega), vP_get (by omega), e]
    cases h1 : eqB (keyV l[n]) k with
    | true => rw [if_pos rfl]; simp [List.filter, h1]
    | false => rw [if_neg Bool.false_ne_true]; simp [List.filter, h1]
theorem rdel_eq (hw : Wf l) : rdelF l k = l.filter fun x => !eqB (keyV x) k := by
  unfold rdelF
  rw [delL_filter k hw _ (Nat.le_refl _), List.take_length]
theorem drop_rdel (hw : Wf l) (ho : Ord l) : dropF l k = rdelF l k := by
  rw [rdel_eq k hw]
  unfold dropF
  rw [fd_eq k ho, bs_rfirst k ho]
  obtain ⟨r, hr, hle, h1, h2, h3⟩ := split_at k ho
  have low : (l.take r).filter (fun x => !eqB (keyV x) k) = l.take r := List.filter_eq_self.2 fun x hx => by rw [lt_ne (h1 x hx)]; rfl
  split
  · rename_i hy
    obtain ⟨hlt, hk, h4⟩ := h3 hy
    have high : (l.drop (r + 1)).filter (fun x => !eqB (keyV x) k) = l.drop (r + 1) := List.filter_eq_self.2 fun x hx => by rw [gt_ne (h4 x hx)]; rfl
    have hd : l.drop r = l[r] :: l.drop (r + 1) := List.drop_eq_getElem_cons hlt
    conv => rhs; rw [← List.take_append_drop r l]
    rw [List.filter_append, low, hd, List.filter_cons, hk, eqB_iff.2 rfl, hr, Int.toNat_natCast]
    simp only [Bool.not_true, Bool.false_eq_true, if_false]
    rw [high]
  · rename_i hy
    have h4 := h2 (by simpa using hy)
    have high : (l.drop r).filter (fun x => !eqB (keyV x) k) = l.drop r := List.filter_eq_self.2 fun x hx => by rw [gt_ne (h4 x hx)]; rfl
    conv => rhs; rw [← List.take_append_drop r l]
    rw [List.filter_append, low, high, List.take_append_drop]
end
theorem right_filter {l : List Value} (p : Value → Bool) (h : RightL l) : RightL (l.filter p) := by
  obtain ⟨h1, h2⟩ := h
  rw [right_iff] at h1
  refine ⟨(right_iff _).2 ⟨fun x hx => h1.1 x (List.mem_filter.1 hx).1, h1.2.1.filter p, ?_⟩, fun x hx => h2 x (List.mem_filter.1 hx).1⟩
  have := List.length_filter_le p l
  omega
theorem may_rmay (k v : ByteArray) : rmayF k v = mayF k v := by
  unfold rmayF mayF
  congr 1
  unfold eqB lenB noB
  cases h : k.data.toList with
  | nil => rfl
  | cons a r => simp; omega
theorem setok_eq {l : List Value} (h : RightL l) (k v : ByteArray) : setokF l k v = (rmayF k v && !decide (30 < ((rsetF l k v).length : Int))) := by
  have ho := ((right_iff l).1 h.1).2
  unfold setokF
  rw [may_rmay, fd_eq k ho.1]
  congr 1
  obtain ⟨r, hr, hle, h1, h2, h3⟩ := split_at k ho.1
  unfold rsetF putF
  rw [hr, Int.toNat_natCast]
  rw [hr, Int.toNat_natCast] at h3
  cases hc : (decide ((r : Int) < (l.length : Int)) && eqB (kP l r) k) with
  | true =>
    obtain ⟨hlt, _⟩ := h3 hc
    rw [if_pos rfl]
    have : (List.take r l ++ [prV k v] ++ List.drop (r + 1) l).length = l.length := by
      simp only [List.length_append, List.length_take, List.length_drop, List.length_cons, List.length_nil]; omega
    rw [this, Bool.true_or, decide_eq_false (by omega)]; rfl
  | false =>
    rw [if_neg Bool.false_ne_true]
    have : (List.take r l ++ [prV k v] ++ List.drop r l).length = l.length + 1 := by
      simp only [List.length_append, List.length_take, List.length_drop, List.length_cons, List.length_nil]; omega
    rw [this, Bool.false_or]
    by_cases e : l.length < 30
    · rw [decide_eq_true (by omega), decide_eq_false (by omega)]; rfl
    · rw [decide_eq_false (by omega), decide_eq_true (by omega)]; rfl
theorem set_rset {l : List Value} (h : RightL l) {k v : ByteArray} (hok : setokF l k v = true) : setF l k v = rsetF l k v ∧ RightL (rsetF l k v) := by
  have ho := ((right_iff l).1 h.1).2
  have hmay := ((right_iff l).1 h.1).1
  have hok2 := setok_eq h k v
  rw [hok] at hok2
  have hok2 := hok2.symm
  rw [Bool.and_eq_true] at hok2
  have hlen : (rsetF l k v).length ≤ 30 := by
    have := hok2.2
    simp only [Bool.not_eq_true', decide_eq_false_iff_not] at this
    omega
  have hm : mayF k v = true := by rw [← may_rmay]; exact hok2.1
  refine ⟨?_, ?_⟩
  · unfold setF
    rw [if_pos hok, fd_eq k ho.1, bs_rfirst k ho.1]; rfl
  · obtain ⟨r, hr, hle, h1, h2, h3⟩ := split_at k ho.1
    have hpk : keyV (prV k v) = k := rfl
    have hpv : valV (prV k v) = v := rfl
    have mk : ∀ j, r ≤ j → (∀ x ∈ l.drop j, ltB k (keyV x) = true) → (l.take r ++ [prV k v] ++ l.drop j).length ≤ 30 → RightL (l.take r ++ [prV k v] ++ l.drop j) := by
      intro j hj hd hl
      have mem : ∀ x ∈ l.take r ++ [prV k v] ++ l.drop j, x ∈ l ∨ x = prV k v := by
        intro x hx
        rcases List.mem_append.1 hx with hx | hx
        · rcases List.mem_append.1 hx with hx | hx
          · exact .inl (List.mem_of_mem_take hx)
          · exact .inr (List.mem_singleton.1 hx)
        · exact .inl (List.mem_of_mem_drop hx)
      refine ⟨(right_iff _).2 ⟨fun x hx => ?_, ?_, hl⟩, fun x hx => ?_⟩
      · rcases mem x hx with hx | rfl
        · exact hmay x hx
        · exact hm
      · unfold Ord
        rw [List.pairwise_append, List.pairwise_append]
        refine ⟨⟨ho.1.sublist (List.take_sublist _ _), List.pairwise_singleton _ _, fun x hx y hy => ?_⟩, ho.1.sublist (List.drop_sublist _ _), fun x hx y hy => ?_⟩
        · rw [List.mem_singleton.1 hy, hpk]; exact h1 x hx
        · rcases List.mem_append.1 hx with hx | hx
          · exact lt_trans (h1 x hx) (hd y hy)
          · rw [List.mem_singleton.1 hx, hpk]; exact hd y hy
      · rcases mem x hx with hx | rfl
        · exact h.2 x hx
        · rfl
    unfold rsetF putF at hlen ⊢
    rw [hr, Int.toNat_natCast] at h2 h3 hlen ⊢
    cases hc : (decide ((r : Int) < (l.length : Int)) && eqB (kP l r) k) with
    | true =>
      rw [hc, if_pos rfl] at hlen
      rw [if_pos rfl]
      obtain ⟨_, _, h4⟩ := h3 hc
      exact mk (r + 1) (by omega) h4 hlen
    | false =>
      rw [hc, if_neg Bool.false_ne_true] at hlen
      rw [if_neg Bool.false_ne_true]
      exact mk r (by omega) (h2 hc) hlen
theorem same_self (l : List Value) : sameF l l = true := by
  unfold sameF
  rw [beq_self_eq_true, Bool.true_and]
  exact all_yes fun i _ => by unfold sameAt; rw [eqB_iff.2 rfl, eqB_iff.2 rfl]; rfl
theorem right_nil : RightL [] := ⟨rfl, fun x hx => by simp at hx⟩
end Go.Proofs.Ytolkoacllaaceaa
