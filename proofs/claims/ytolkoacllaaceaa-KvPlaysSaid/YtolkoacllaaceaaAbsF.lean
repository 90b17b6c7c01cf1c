/-
  FREEZING: blocks that are only read from now on; a slice of such a block as immutable data.
-/
import Derived.Test.YtolkoacllaaceaaAbs33
namespace Go.Abs
open Go

noncomputable section
/-- Two zeroes that are the same. -/
def zeq : Nat → Value → Value → Bool
  | 0, _, _ => false
  | n + 1, a, b => match a, b with
    | .agg xs, .agg ys => xs.toList.length == ys.toList.length && (xs.toList.zip ys.toList).all fun p => zeq n p.1 p.2
    | .func (.yield 1) f xs, .func (.yield 1) g ys => xs.toList.isEmpty && ys.toList.isEmpty && f.toList.length == g.toList.length && (f.toList.zip g.toList).all fun p => zeq n p.1 p.2
    | a, b => vbeq1 a b
/-- A cell as immutable data, of a zero's kind. -/
def rawCell (deep : Value → Value → Option (List Value)) (z c : Value) : Option Value :=
  match z with
  | .int k _ => match den c with
    | .int k' n => if k = k' then some (.int k n) else none
    | _ => none
  | .string _ => match den c with
    | .string s => some (.string s)
    | _ => none
  | .bool _ => match c with
    | .bool b => some (.bool b)
    | .func (.yield 3) f y => match f.toList, y.toList with
      | [.bool b], [] => some (.bool b)
      | _, _ => none
    | _ => none
  | .func (.yield 1) f _ => match f.toList with
    | [z'] => (deep z' c).map fun xs => dsl z' xs
    | _ => none
  | z => if plain1 z && vbeq1 z c then some z else none
def rawCells (deep : Value → Value → Option (List Value)) : List Value → List Value → Option (List Value × List Value)
  | [], cs => some ([], cs)
  | z :: zs, c :: cs => match rawCell deep z c with
    | some x => match rawCells deep zs cs with
      | some (xs, r) => some (x :: xs, r)
      | none => none
    | none => none
  | _ :: _, [] => none
def rawElem (deep : Value → Value → Option (List Value)) (z : Value) (cs : List Value) : Option (Value × List Value) :=
  match z with
  | .agg zs => match rawCells deep zs.toList cs with
    | some (xs, r) => some (.agg xs.toArray, r)
    | none => none
  | z => match cs with
    | c :: r => (rawCell deep z c).map fun x => (x, r)
    | [] => none
def rawElems (deep : Value → Value → Option (List Value)) (z : Value) : Nat → List Value → Option (List Value)
  | 0, _ => some []
  | m + 1, cs => match rawElem deep z cs with
    | some (x, r) => match rawElems deep z m r with
      | some xs => some (x :: xs)
      | none => none
    | none => none
/-- A slice as immutable data: its elements; of the blocks that may be frozen. -/
def deepV (h : Hp) (ok : Nat → Bool) : Nat → Value → Value → Option (List Value)
  | 0, _, _ => none
  | n + 1, z, v => match v with
    | .func (.yield 1) f xs => match f.toList with
      | [z0] => if zeq 5 z0 z then some xs.toList else none
      | _ => none
    | .func (.yield 5) f xs => match f.toList with
      | [z0, .slice none _ _] => if zeq 5 z0 z then some xs.toList else none
      | _ => none
    | .slice none 0 0 => some []
    | v => match den v with
      | .slice (some ⟨b, o, none⟩) m _ => match h.get b with
        | some (.cells cs false) => if ok b then rawElems (deepV h ok n) z m (cs.drop o) else none
        | _ => none
      | _ => none
/-- Which blocks that visits. -/
def deepBs (h : Hp) : Nat → Value → List Nat
  | 0, _ => []
  | n + 1, v => match den v with
      | .slice (some ⟨b, _, none⟩) _ _ => match h.get b with
        | some (.cells cs false) => b :: cs.flatMap (deepBs h n)
        | _ => []
      | _ => []
def roB : Blk → Blk
  | .cells cs _ => .cells cs true
  | .row r _ => .row r true
  | x => x
def isRowB : Blk → Bool
  | .cells _ _ | .row _ _ => true
  | _ => false
end

theorem zeq_eq : ∀ {n : Nat} {a b : Value}, zeq n a b = true → a = b
  | 0, _, _, h => by simp [zeq] at h
  | n + 1, a, b, h => by
    have lst : ∀ {l m : List Value}, (l.length == m.length) = true → ((l.zip m).all fun p => zeq n p.1 p.2) = true → l = m := by
      intro l
      induction l with
      | nil => intro m h1 _; simp at h1; exact (List.length_eq_zero_iff.1 h1.symm).symm
      | cons x l ih =>
        intro m h1 h2
        cases m with
        | nil => simp at h1
        | cons y m =>
          simp only [List.zip_cons_cons, List.all_cons, Bool.and_eq_true] at h2
          rw [zeq_eq h2.1, ih (by simpa using h1) h2.2]
    unfold zeq at h
    split at h
    · simp only [Bool.and_eq_true] at h
      rw [Array.toList_inj.1 (lst h.1 h.2)]
    · simp only [Bool.and_eq_true, List.isEmpty_iff] at h
      obtain ⟨⟨⟨h1, h2⟩, h3⟩, h4⟩ := h
      rw [Array.toList_inj.1 (h1.trans h2.symm), Array.toList_inj.1 (lst h3 h4)]
    · exact vbeq1_eq h

section
variable {μ : Mu} {base : Nat} {w : World} {g : Gm}

open Classical in
/-- What is frozen behind it. -/
noncomputable def zf (μ : Mu) (g : Gm) (w : World) (S : Nat → Prop) : Nat → Nat → Option Value := fun c i =>
  if ∃ b p x, S b ∧ μ b = some p ∧ g b = some x ∧ (isRowB x = true ∧ ownB x = true) ∧ p.c = c ∧ p.s ≤ i then
    match w.heap[c]? with
    | some (.cells arr _ _) => arr[i]?
    | _ => none
  else μ.z c i
noncomputable def muF (μ : Mu) (g : Gm) (w : World) (S : Nat → Prop) : Mu := ⟨μ.f, zf μ g w S⟩
open Classical in
noncomputable def gF (g : Gm) (S : Nat → Prop) : Gm := fun b => if S b then (g b).map roB else g b

theorem muF_le (hr : Rel μ base g w) (S : Nat → Prop) : Mu.le μ (muF μ g w S) := by
  refine ⟨fun _ _ h => h, fun c i a h => ?_⟩
  show zf μ g w S c i = some a
  unfold zf
  split
  · obtain ⟨arr, e, fr, h1, h2⟩ := (hr.frz c i a h).1
    rw [h1]; exact h2
  · exact h
theorem BR.ro {p : Pl} {x : Blk} (h : BR μ base w p x) : BR μ base w p (roB x) := by
  cases x with
  | cells cs ro =>
    obtain ⟨arr, e, fr, h1, h2, h3, h4⟩ := h
    exact ⟨arr, e, fr, h1, h2, h3, fun h => by cases h⟩
  | row r ro =>
    obtain ⟨arr, e, fr, h1, h2, h3, h4⟩ := h
    exact ⟨arr, e, fr, h1, h2, h3, fun h => by cases h⟩
  | map es ck => exact h
theorem own_ro {x : Blk} (h : ownB (roB x) = true) : ownB x = true ∧ isRowB x = false := by
  cases x with
  | cells cs ro => simp [roB, ownB] at h
  | row r ro => simp [roB, ownB] at h
  | map es ck => exact ⟨rfl, rfl⟩

/-- FREEZING blocks. -/
theorem freeze_rel (hr : Rel μ base g w) (S : Nat → Prop) : Rel (muF μ g w S) base (gF g S) w := by
  have at' : ∀ {b x}, gF g S b = some x → ∃ x0, g b = some x0 ∧ (x = x0 ∧ ¬ S b ∨ x = roB x0 ∧ S b) := by
    intro b x h
    unfold gF at h
    split at h
    · rename_i hs
      cases e : g b with
      | none => rw [e] at h; cases h
      | some x0 => rw [e] at h; simp at h; exact ⟨x0, rfl, .inr ⟨h.symm, hs⟩⟩
    · rename_i hs
      exact ⟨x, h, .inl ⟨rfl, hs⟩⟩
  have own : ∀ {b x}, gF g S b = some x → ownB x = true → ∃ x0, g b = some x0 ∧ ownB x0 = true ∧ (S b → isRowB x0 = false) := by
    intro b x h ho
    obtain ⟨x0, h0, ⟨rfl, hs⟩ | ⟨rfl, hs⟩⟩ := at' h
    · exact ⟨_, h0, ho, fun h => absurd h hs⟩
    · exact ⟨x0, h0, (own_ro ho).1, fun _ => (own_ro ho).2⟩
  refine ⟨hr.size, fun b p x hb hx => ?_, fun b b' p p' x x' h1 h2 h3 h4 h5 h6 => ?_, fun c i a hc => ⟨?_, fun b p x hb hx ho hcc => ?_⟩⟩
  · obtain ⟨x0, h0, h⟩ := at' hx
    have hb0 := (hr.blk b p x0 hb h0).keep (muF_le hr S) rfl
    rcases h with ⟨rfl, _⟩ | ⟨rfl, _⟩
    · exact hb0
    · exact hb0.ro
  · obtain ⟨x0, h0, ho, _⟩ := own h3 h6
    obtain ⟨x0', h0', _⟩ := at' h4
    exact hr.inj b b' p p' x0 x0' h1 h2 h0 h0' h5 ho
  · have hc : zf μ g w S c i = some a := hc
    unfold zf at hc
    split at hc
    · split at hc
      · rename_i arr e fr he
        exact ⟨arr, e, fr, he, hc⟩
      · cases hc
    · exact (hr.frz c i a hc).1
  · have hc : zf μ g w S c i = some a := hc
    unfold zf at hc
    obtain ⟨x0, h0, ho0, hs0⟩ := own hx ho
    split at hc
    · rename_i hex
      obtain ⟨b1, p1, x1, h1, h2, h3, h4, h5, h6⟩ := hex
      by_cases e : b = b1
      · subst e
        rw [h0] at h3
        simp only [Option.some.injEq] at h3
        subst h3
        rw [hs0 h1] at h4; cases h4.1
      · exact absurd (hcc.trans h5.symm) (hr.inj b b1 p p1 x0 x1 hb h2 h0 h3 e ho0)
    · exact (hr.frz c i a hc).2 b p x0 hb h0 ho0 hcc

theorem freeze_sim (S : Nat → Prop) : ∀ c i a, (muF μ g w S).z c i = some a → μ.z c i = some a ∨ w.heap.size ≤ c ∨ ∃ b0 p0 x0, μ b0 = some p0 ∧ g b0 = some x0 ∧ ownB x0 = true ∧ p0.c = c := by
  intro c i a hc
  have hc : zf μ g w S c i = some a := hc
  unfold zf at hc
  split at hc
  · rename_i hex
    obtain ⟨b1, p1, x1, h1, h2, h3, h4, h5, h6⟩ := hex
    exact .inr (.inr ⟨b1, p1, x1, h2, h3, h4.2, h5⟩)
  · exact .inl hc

theorem norm_raw {deep : Value → Value → Option (List Value)} {z c x : Value} (h : rawCell deep z c = some x) : norm1 z x = x := by
  unfold rawCell at h
  unfold norm1
  split at h
  · split at h
    · split at h
      · simp only [Option.some.injEq] at h; subst h; rfl
      · cases h
    · cases h
  · split at h
    · simp only [Option.some.injEq] at h; subst h; rfl
    · cases h
  · split at h
    · simp only [Option.some.injEq] at h; subst h; rfl
    · split at h
      · simp only [Option.some.injEq] at h; subst h; rfl
      · cases h
    · cases h
  · rename_i f xs0
    split at h
    · rename_i z' hf
      cases e : deep z' c with
      | none => rw [e] at h; cases h
      | some ys =>
        rw [e] at h
        simp only [Option.map_some, Option.some.injEq] at h; subst h
        have : f = #[z'] := by rw [← Array.toList_inj, hf]
        subst this
        rfl
    · cases h
  · split at h
    · rename_i hp
      simp only [Bool.and_eq_true] at hp
      simp only [Option.some.injEq] at h; subst h
      rename_i h1 h2 h3 h4
      split
      · exact absurd rfl (h1 _ _)
      · exact absurd rfl (h2 _)
      · exact absurd rfl (h3 _)
      · exact absurd rfl (h4 _ _)
      · rw [if_pos hp.1]
    · cases h

/-- What a cell stands for. -/
theorem rawCell_ok {fz : Nat → Nat → Option Value} {deep : Value → Value → Option (List Value)} (hd : ∀ {z v v' xs}, deep z v = some xs → VR1 μ v v' → DR fz (dsl z xs) v') {z c x v' : Value} (h : rawCell deep z c = some x) (hr : VR1 μ c v') : DR fz x v' := by
  have den0 : ∀ {u : Value}, Abs.den c = u → plain1 u = true → v' = u := by
    intro u hu hp
    have := VR1.den_iff.2 hr
    rw [hu] at this
    exact this.eq_of_plain hp
  unfold rawCell at h
  split at h
  · split at h
    · rename_i k' n hn
      split at h
      · simp only [Option.some.injEq] at h; subst h
        rename_i hk; subst hk
        rw [den0 hn rfl]; exact .plain rfl
      · cases h
    · cases h
  · split at h
    · rename_i s hs
      simp only [Option.some.injEq] at h; subst h
      rw [den0 hs rfl]; exact .plain rfl
    · cases h
  · split at h
    · simp only [Option.some.injEq] at h; subst h
      rw [hr.eq_of_plain rfl]; exact .plain rfl
    · rename_i f y
      split at h
      · rename_i b hf _
        simp only [Option.some.injEq] at h; subst h
        have : v' = .bool b := by
          cases hr with
          | func h0 _ _ => simp [isYield] at h0
          | zero h0 =>
            have e : f = #[.bool b] := by rw [← Array.toList_inj, hf]
            subst e
            generalize hv : Value.func (Fn.yield 3) #[Value.bool b] y = d at h0
            cases h0 with
            | plain hp => subst hv; simp [plain1] at hp
            | mbool => simp [mkb] at hv; rw [hv.1]
            | mark _ _ => simp [mk] at hv
            | deep _ => simp [dsl] at hv
            | osl _ _ _ => simp [Abs.osq] at hv
            | fptr _ _ _ => simp [Abs.fptr] at hv
            | rptr _ => simp [Abs.rptr] at hv
            | _ => cases hv
        rw [this]; exact .plain rfl
      · cases h
    · cases h
  · rename_i f xs0
    split at h
    · rename_i z' hf
      cases e : deep z' c with
      | none => rw [e] at h; cases h
      | some ys =>
        rw [e] at h
        simp only [Option.map_some, Option.some.injEq] at h; subst h
        exact hd e hr
    · cases h
  · split at h
    · rename_i hp
      simp only [Bool.and_eq_true] at hp
      simp only [Option.some.injEq] at h; subst h
      have := vbeq1_eq hp.2; subst this
      rw [hr.eq_of_plain hp.1]; exact .plain hp.1
    · cases h

theorem cellsN_agg (zs : Array Value) (x : Value) : cellsN (.agg zs) x = zs.toList.zipIdx.map fun p => norm1 p.1 (fld x p.2) := rfl
theorem rawCells_ok {fz : Nat → Nat → Option Value} {deep : Value → Value → Option (List Value)} (hd : ∀ {z v v' xs}, deep z v = some xs → VR1 μ v v' → DR fz (dsl z xs) v') :
    ∀ {zs cs xs r : List Value}, rawCells deep zs cs = some (xs, r) → ∃ used, cs = used ++ r ∧ used.length = xs.length ∧ xs.length = zs.length ∧ (∀ (i : Nat) z x, zs[i]? = some z → xs[i]? = some x → norm1 z x = x) ∧
      ∀ (i : Nat) x u v', xs[i]? = some x → used[i]? = some u → VR1 μ u v' → DR fz x v'
  | [], cs, xs, r, h => by
    simp only [rawCells, Option.some.injEq, Prod.mk.injEq] at h
    obtain ⟨rfl, rfl⟩ := h
    exact ⟨[], rfl, rfl, rfl, fun i z x hz => by simp at hz, fun i x u v' hx => by simp at hx⟩
  | z :: zs, [], xs, r, h => by simp [rawCells] at h
  | z :: zs, c :: cs, xs, r, h => by
    unfold rawCells at h
    split at h
    · rename_i x hx
      split at h
      · rename_i xs' r' hxs
        simp only [Option.some.injEq, Prod.mk.injEq] at h
        obtain ⟨rfl, rfl⟩ := h
        obtain ⟨used, rfl, h1, h2, h3, h4⟩ := rawCells_ok hd hxs
        refine ⟨c :: used, rfl, by simp [h1], by simp [h2], fun i z' x' hz' hx' => ?_, fun i x' u v' hx' hu hv => ?_⟩
        · cases i with
          | zero => simp at hz' hx'; subst hz'; subst hx'; exact norm_raw hx
          | succ i => exact h3 i z' x' (by simpa using hz') (by simpa using hx')
        · cases i with
          | zero => simp at hx' hu; subst hx'; subst hu; exact rawCell_ok hd hx hv
          | succ i => exact h4 i x' u v' (by simpa using hx') (by simpa using hu) hv
      · cases h
    · cases h
theorem rawElem_ok {fz : Nat → Nat → Option Value} {deep : Value → Value → Option (List Value)} (hd : ∀ {z v v' xs}, deep z v = some xs → VR1 μ v v' → DR fz (dsl z xs) v') {z x : Value} {cs r : List Value} (h : rawElem deep z cs = some (x, r)) :
    ∃ used, cs = used ++ r ∧ used.length = (cellsN z x).length ∧ ∀ (i : Nat) y u v', (cellsN z x)[i]? = some y → used[i]? = some u → VR1 μ u v' → DR fz y v' := by
  unfold rawElem at h
  split at h
  · rename_i zs
    split at h
    · rename_i xs r' hxs
      simp only [Option.some.injEq, Prod.mk.injEq] at h
      obtain ⟨rfl, rfl⟩ := h
      obtain ⟨used, rfl, h1, h2, h3, h4⟩ := rawCells_ok hd hxs
      have hc : cellsN (.agg zs) (.agg xs.toArray) = xs := by
        rw [cellsN_agg]
        refine List.ext_getElem? fun i => ?_
        rw [List.getElem?_map, List.getElem?_zipIdx]
        cases hz : zs.toList[i]? with
        | none =>
          rw [List.getElem?_eq_none_iff] at hz
          rw [List.getElem?_eq_none (by omega)]; rfl
        | some z =>
          have hlt := (List.getElem?_eq_some_iff.1 hz).1
          have hx := List.getElem?_eq_getElem (l := xs) (i := i) (by omega)
          rw [hx]
          simp only [Option.map_some, Nat.zero_add]
          have : fld (.agg xs.toArray) i = xs[i]'(by omega) := by
            unfold fld Value.cells
            rw [Array.getD_eq_getD_getElem?, List.getElem?_toArray, hx]; rfl
          rw [this, h3 i z _ hz hx]
      rw [hc]
      exact ⟨used, rfl, h1, h4⟩
    · cases h
  · rename_i hna
    split at h
    · rename_i c r'
      cases e : rawCell deep z c with
      | none => rw [e] at h; cases h
      | some x' =>
        rw [e] at h
        simp only [Option.map_some, Option.some.injEq, Prod.mk.injEq] at h
        obtain ⟨rfl, rfl⟩ := h
        have hc : cellsN z x' = [x'] := by
          unfold cellsN
          split
          · exact absurd rfl (hna _)
          · rw [norm_raw e]
        rw [hc]
        refine ⟨[c], rfl, rfl, fun i y u v' hy hu hv => ?_⟩
        cases i with
        | zero => simp at hy hu; subst hy; subst hu; exact rawCell_ok hd e hv
        | succ i => simp at hy
    · cases h
theorem rawElems_ok {fz : Nat → Nat → Option Value} {deep : Value → Value → Option (List Value)} (hd : ∀ {z v v' xs}, deep z v = some xs → VR1 μ v v' → DR fz (dsl z xs) v') {z : Value} : ∀ {m : Nat} {cs xs : List Value}, rawElems deep z m cs = some xs →
    xs.length = m ∧ (flatN z xs).length ≤ cs.length ∧ ∀ (i : Nat) y u v', (flatN z xs)[i]? = some y → cs[i]? = some u → VR1 μ u v' → DR fz y v'
  | 0, cs, xs, h => by
    simp only [rawElems, Option.some.injEq] at h; subst h
    exact ⟨rfl, by simp [flatN], fun i y u v' hy => by simp [flatN] at hy⟩
  | m + 1, cs, xs, h => by
    unfold rawElems at h
    split at h
    · rename_i x r hx
      split at h
      · rename_i xs' hxs
        simp only [Option.some.injEq] at h; subst h
        obtain ⟨used, rfl, h1, h2⟩ := rawElem_ok hd hx
        obtain ⟨h3, h4, h5⟩ := rawElems_ok hd hxs
        have hf : flatN z (x :: xs') = cellsN z x ++ flatN z xs' := rfl
        refine ⟨by simp [h3], by rw [hf, List.length_append, List.length_append]; omega, fun i y u v' hy hu hv => ?_⟩
        rw [hf, List.getElem?_append] at hy
        rw [List.getElem?_append] at hu
        split at hy
        · rename_i hi
          rw [if_pos (by omega)] at hu
          exact h2 i y u v' hy hu hv
        · rename_i hi
          rw [if_neg (by omega)] at hu
          rw [← h1] at hy
          exact h5 _ y u v' hy hu hv
      · cases h
    · cases h

/-- A SLICE AS IMMUTABLE DATA. -/
theorem deepV_ok {h : Hp} {ok : Nat → Bool} {S : Nat → Prop} (hS : ∀ b, ok b = true → S b) (hr : Rel μ base h.get w) : ∀ (n : Nat) {z v v' : Value} {xs : List Value}, deepV h ok n z v = some xs → VR1 μ v v' → DR (zf μ h.get w S) (dsl z xs) v'
  | 0, z, v, v', xs, hd, hv => by simp [deepV] at hd
  | n + 1, z, v, v', xs, hd, hv => by
    have ih := fun {z v v' xs} => deepV_ok hS hr n (z := z) (v := v) (v' := v') (xs := xs)
    have hle := muF_le hr S
    unfold deepV at hd
    split at hd
    · rename_i f ys
      split at hd
      · rename_i z0 hf
        split at hd
        · rename_i hz
          simp only [Option.some.injEq] at hd; subst hd
          have := zeq_eq hz; subst this
          have hf : f = #[z0] := by rw [← Array.toList_inj, hf]
          subst hf
          have e : Value.func (Fn.yield 1) #[z0] ys = dsl z0 ys.toList := by simp [dsl]
          rw [e] at hv
          have h0 := hv.zero_of_basic rfl
          generalize hg : dsl z0 ys.toList = d at h0
          cases h0 with
          | deep hd => exact hd.mono hle.z
          | plain hp => subst hg; simp [not_plain_dsl] at hp
          | mark _ _ => simp [dsl, mk] at hg
          | osl _ _ _ => simp [Abs.osq, dsl] at hg
          | fptr _ _ _ => simp [Abs.fptr, dsl] at hg
          | rptr _ => simp [Abs.rptr, dsl] at hg
          | mbool => simp [mkb, dsl] at hg
          | _ => cases hg
        · cases hd
      · cases hd
    · rename_i f ys
      split at hd
      · rename_i z0 b q hf
        split at hd
        · rename_i hz
          simp only [Option.some.injEq] at hd; subst hd
          have := zeq_eq hz; subst this
          have hf : f = #[z0, .slice none b q] := by rw [← Array.toList_inj, hf]
          subst hf
          have e : Value.func (Fn.yield 5) #[z0, .slice none b q] ys = osq z0 ys.toList b q := by simp [osq]
          rw [e] at hv
          have h0 := hv.zero_of_basic rfl
          generalize hg : osq z0 ys.toList b q = d at h0
          cases h0 with
          | osl hd h1 h2 =>
            simp [Abs.osq] at hg
            obtain ⟨⟨rfl, rfl, rfl⟩, h3⟩ := hg
            subst h3
            have := hd.mono hle.z
            simpa [muF] using this
          | plain hp => subst hg; simp [plain1, Abs.osq] at hp
          | mark _ _ => simp [Abs.osq, mk] at hg
          | deep _ => simp [Abs.osq, dsl] at hg
          | fptr _ _ _ => simp [Abs.fptr, Abs.osq] at hg
          | rptr _ => simp [Abs.rptr, Abs.osq] at hg
          | mbool => simp [mkb, Abs.osq] at hg
          | _ => cases hg
        · cases hd
      · cases hd
    · simp only [Option.some.injEq] at hd; subst hd
      rw [hv.eq_of_plain rfl]
      exact .nil
    · split at hd
      · rename_i b o m k hden
        split at hd
        · rename_i cs hb
          split at hd
          · rename_i hok
            have h0 := VR1.den_iff.2 hv
            rw [hden] at h0
            obtain ⟨h1, h2, h3⟩ := rawElems_ok (μ := μ) (fz := zf μ h.get w S) (deep := deepV h ok n) (fun {z v v' xs} => ih) hd
            rcases (VR.one h0).inv_slice with ⟨p, k', hp, rfl, hlk, _⟩ | ⟨rfl, _, a', ⟨p, hp⟩, rfl⟩
            · obtain ⟨arr, e, fr, h4, h5, h6, h7⟩ := hr.blk b p _ hp hb
              have cell : ∀ i y, (flatN z xs)[i]? = some y → ∃ u v', cs[o + i]? = some u ∧ arr[p.s + (o + i)]? = some v' ∧ VR1 μ u v' := by
                intro i y hy
                have hi := (List.getElem?_eq_some_iff.1 hy).1
                rw [List.length_drop] at h2
                have hu := List.getElem?_eq_getElem (l := cs) (i := o + i) (by omega)
                obtain ⟨v', h8, h9⟩ := h6 _ _ hu
                exact ⟨_, v', hu, h8, h9⟩
              refine .sl (fun i => arr.getD (p.s + (o + i)) (.bool false)) h1 hlk (fun i y hy => ?_) (fun i y hy => ?_)
              · obtain ⟨u, v', hu, ha, hv⟩ := cell i y hy
                unfold zf
                rw [if_pos ⟨b, p, _, hS b hok, hp, hb, ⟨rfl, rfl⟩, rfl, by omega⟩, h4]
                show arr[o + p.s + i]? = _
                rw [Array.getD_eq_getD_getElem?, ha, show o + p.s + i = p.s + (o + i) from by omega, ha]; rfl
              · obtain ⟨u, v', hu, ha, hv⟩ := cell i y hy
                rw [Array.getD_eq_getD_getElem?, ha]
                exact h3 i y u v' hy (by rw [List.getElem?_drop]; exact hu) hv
            · have : xs = [] := List.eq_nil_of_length_eq_zero h1
              subst this
              exact .nil
          · cases hd
        · cases hd
      · cases hd
theorem deepV_one {h : Hp} {ok : Nat → Bool} {n : Nat} {z v : Value} {xs : List Value} (hd : deepV h ok n z v = some xs) : v.oneCell' = true := by
  cases n with
  | zero => simp [deepV] at hd
  | succ n =>
    cases v <;> first | rfl | skip
    all_goals simp [deepV, den] at hd
theorem norm1_kind (z x : Value) : plain1 (norm1 z x) = true ∨ ∃ z' xs, norm1 z x = dsl z' xs ∨ ∃ f, norm1 z x = .func (.yield 1) f xs.toArray := by
  unfold norm1
  split
  · exact .inl rfl
  · exact .inl rfl
  · exact .inl rfl
  · rename_i f _
    exact .inr ⟨.bool false, dels x, .inr ⟨f, rfl⟩⟩
  · split
    · rename_i h; exact .inl h
    · exact .inl rfl
/-- What stands for a value of a row still does, where more is frozen. -/
theorem VR1.yield1 {μ μ' : Mu} {f ys : Array Value} {v' : Value} (hz : ∀ c i a, μ.z c i = some a → μ'.z c i = some a) (h : VR1 μ (.func (.yield 1) f ys) v') : VR1 μ' (.func (.yield 1) f ys) v' := by
  have h0 := h.zero_of_basic rfl
  generalize hg : Value.func (Fn.yield 1) f ys = d at h0
  cases h0 with
  | deep hd => exact .zero (.deep (hd.mono hz))
  | plain hp => exact .zero (.plain hp)
  | mark _ _ => simp [mk] at hg
  | osl _ _ _ => simp [Abs.osq] at hg
  | fptr _ _ _ => simp [Abs.fptr] at hg
  | rptr _ => simp [Abs.rptr] at hg
  | mbool => simp [mkb] at hg
  | _ => cases hg
theorem VR1.norm1 {μ μ' : Mu} {z x v' : Value} (hz : ∀ c i a, μ.z c i = some a → μ'.z c i = some a) (h : VR1 μ (norm1 z x) v') : VR1 μ' (Abs.norm1 z x) v' := by
  rcases norm1_kind z x with hp | ⟨z', xs, e | ⟨f, e⟩⟩
  · rw [h.eq_of_plain hp]; exact .refl_plain hp
  · rw [e] at h ⊢; exact VR1.yield1 hz h
  · rw [e] at h ⊢; exact VR1.yield1 hz h
theorem mem_flatN {z v : Value} {xs : List Value} (h : v ∈ flatN z xs) : ∃ z' x', v = Abs.norm1 z' x' := by
  obtain ⟨x, _, hx⟩ := List.mem_flatMap.1 h
  unfold cellsN at hx
  split at hx
  · obtain ⟨p, _, rfl⟩ := List.mem_map.1 hx
    exact ⟨_, _, rfl⟩
  · rw [List.mem_singleton.1 hx]; exact ⟨_, _, rfl⟩
theorem row_keep {μ μ' : Mu} {r : Row} {v v' : Value} (hz : ∀ c i a, μ.z c i = some a → μ'.z c i = some a) (hm : v ∈ r.cells) (h : VR1 μ v v') : VR1 μ' v v' := by
  cases r with
  | ints k xs => obtain ⟨_, _, rfl⟩ := List.mem_map.1 hm; rw [h.eq_of_plain rfl]; exact .refl_plain rfl
  | bools xs => obtain ⟨_, _, rfl⟩ := List.mem_map.1 hm; rw [h.eq_of_plain rfl]; exact .refl_plain rfl
  | strs xs => obtain ⟨_, _, rfl⟩ := List.mem_map.1 hm; rw [h.eq_of_plain rfl]; exact .refl_plain rfl
  | pairs xs =>
    obtain ⟨_, _, he⟩ := List.mem_flatMap.1 hm
    simp at he
    rcases he with rfl | rfl <;> (rw [h.eq_of_plain rfl]; exact .refl_plain rfl)
  | vals z xs => obtain ⟨z', x', rfl⟩ := mem_flatN hm; exact h.norm1 hz
end
end Go.Abs
