/-
  FUNCTIONS OF IMMUTABLE DATA: contracts that tell what is answered, of what is handed in; nothing of the caller's turns.
-/
import Derived.Test.YtolkoacllaaceaaAbs40
namespace Go.Abs
open Go

noncomputable section
/-- A slice that is immutable data already. -/
def deep0 (z v : Value) : Option (List Value) :=
  match v with
  | .func (.yield 1) f xs => match f.toList with
    | [z0] => if zeq 5 z0 z then some xs.toList else none
    | _ => none
  | _ => none
/-- A value as raw data, of a zero's kind. -/
def rawV (deep : Value → Value → Option (List Value)) (z v : Value) : Option Value :=
  match z with
  | .agg zs => match v with
    | .agg cs => match rawCells deep zs.toList cs.toList with
      | some (xs, []) => some (.agg xs.toArray)
      | _ => none
    | _ => none
  | z => rawCell deep z v
def rawVs (deep : Value → Value → Option (List Value)) : List Value → List Value → Option (List Value)
  | [], [] => some []
  | z :: zs, v :: vs => match rawV deep z v, rawVs deep zs vs with
    | some x, some xs => some (x :: xs)
    | _, _ => none
  | _, _ => none

/-- A function of immutable data: its arguments' zeroes, the arguments, what is asked of them, the results' zeroes, the results; is the one result a slice of its own? -/
structure PF where
  D : Type
  zs : List Value
  args : D → List Value
  dec : List Value → Option D
  ok : ∀ {deep : Value → Value → Option (List Value)} {vs xs : List Value} {d : D}, rawVs deep zs vs = some xs → dec xs = some d → rawVs deep0 zs (args d) = some xs
  pre : D → Prop
  zr : List Value
  res : D → List Value
  fresh : Bool := false

def freezeL (h : Hp) : List Nat → Hp
  | [] => h
  | b :: l => match h.get b with
    | some x => if isRowB x then freezeL (h.put b (some (roB x))) l else freezeL h l
    | none => freezeL h l
def bsOf (h : Hp) (args : List Value) : List Nat := args.flatMap fun v => v.cells.toList.flatMap (deepBs h 6)
/-- What is handed on of a fresh result: with the right to append. -/
def freshV (vs : List Value) (b : Nat) : Option Value :=
  match vs with
  | [v] => match asDeep v with
    | some (z, xs) => some (osl z xs b)
    | none => none
  | _ => none
def PF.leave (F : PF) (d : F.D) (h : Hp) (K : Value → Hp → Prop) : Prop :=
  if F.fresh then match freshV (F.res d) h.next with
    | some v => K v (h.push (.cells [] false))
    | none => False
  else K (resV (F.res d)) h
def pcon (F : PF) (args : List Value) (h : Hp) (K : Value → Hp → Prop) : Prop :=
  match rawVs (deepV h (fun b => (bsOf h args).contains b) 6) F.zs args with
  | some xs => match F.dec xs with
    | some d => F.pre d ∧ F.leave d (freezeL h (bsOf h args)) K
    | none => False
  | none => False
/-- The same where nothing is frozen. -/
def dcon (F : PF) (args : List Value) (h : Hp) (K : Value → Hp → Prop) : Prop :=
  match rawVs (deepV h (fun _ => false) 6) F.zs args with
  | some xs => match F.dec xs with
    | some d => F.pre d ∧ K (resV (F.res d)) h
    | none => False
  | none => False
def sameO (a b : Option (List Value)) : Prop := match a, b with
  | some x, some y => x = y
  | _, _ => False
/-- What is asked behind the function's text. -/
def PF.done (F : PF) (d : F.D) (v : Value) (h : Hp) : Prop :=
  match resL v with
  | some vs =>
    if F.fresh then match F.res d with
      | [r] => match asDeep r with
        | some (z, ys) => match vs with
          | [.slice none 0 0] => ([] : List Value) = ys
          | [.func (.yield 5) f xs] => match f.toList with
            | [z0, .slice none b 0] => if zeq 5 z0 z then match h.get b with
              | some (.cells [] false) => xs.toList = ys
              | _ => False
              else False
            | _ => False
          | _ => False
        | none => False
      | _ => False
    else sameO (rawVs (deepV h (fun _ => true) 6) F.zr vs) (rawVs deep0 F.zr (F.res d))
  | none => False
end

section
variable {μ : Mu} {base : Nat} {w : World}

def isAggV : Value → Bool
  | .agg _ => true
  | _ => false
/-- Raw data in the model. -/
def DRa (fz : Nat → Nat → Option Value) (x v' : Value) : Prop :=
  (isAggV x = false ∧ DR fz x v') ∨ ∃ xs ys, x = .agg xs ∧ v' = .agg ys ∧ All2 (DR fz) xs.toList ys.toList
theorem rawCell_noAgg {deep : Value → Value → Option (List Value)} {z c x : Value} (h : rawCell deep z c = some x) : isAggV x = false := by
  have := norm_raw h
  cases x with
  | agg xs =>
    exfalso
    unfold norm1 at this
    split at this <;> first | (cases this; done) | skip
    split at this
    · rename_i hp; rw [this] at hp; simp [plain1] at hp
    · cases this
  | _ => rfl
theorem rawV_ok {fz : Nat → Nat → Option Value} {deep : Value → Value → Option (List Value)} (hd : ∀ {z v v' xs}, deep z v = some xs → VR1 μ v v' → DR fz (dsl z xs) v') (h1 : ∀ {z v xs}, deep z v = some xs → v.oneCell' = true) {z v x v' : Value} (h : rawV deep z v = some x) (hv : VR μ v v') : DRa fz x v' := by
  unfold rawV at h
  split at h
  · rename_i zs
    split at h
    · rename_i cs
      split at h
      · rename_i xs hxs
        simp only [Option.some.injEq] at h; subst h
        obtain ⟨ys, rfl, hys⟩ := hv.inv_agg
        obtain ⟨used, hu, h2, h3, h4, h5⟩ := rawCells_ok hd hxs
        rw [List.append_nil] at hu
        refine .inr ⟨_, _, rfl, rfl, ⟨by rw [← h2, ← hu, hys.1], fun i a ha => ?_⟩⟩
        have ha : xs[i]? = some a := by simpa using ha
        have hlt := (List.getElem?_eq_some_iff.1 ha).1
        have hc := List.getElem?_eq_getElem (l := used) (i := i) (by omega)
        obtain ⟨b, hb, r⟩ := hys.2 i _ (by rw [hu]; exact hc)
        exact ⟨b, hb, h5 i a _ b ha hc r⟩
      · cases h
    · cases h
  · refine .inl ⟨rawCell_noAgg h, ?_⟩
    have hone : v.oneCell' = true := by
      unfold rawCell at h
      split at h
      · split at h
        · rename_i hden
          rcases den_cases v with e | ⟨u, rfl, _, _⟩
          · rw [e] at hden; rw [hden]; rfl
          · rfl
        · cases h
      · split at h
        · rename_i hden
          rcases den_cases v with e | ⟨u, rfl, _, _⟩
          · rw [e] at hden; rw [hden]; rfl
          · rfl
        · cases h
      · split at h <;> first | rfl | cases h
      · split at h
        · rename_i z' _
          cases e : deep z' v with
          | none => rw [e] at h; cases h
          | some ys => exact h1 e
        · cases h
      · split at h
        · rename_i hp
          simp only [Bool.and_eq_true] at hp
          have := vbeq1_eq hp.2
          rw [← this]
          have hp1 := hp.1
          clear h hp this
          cases z <;> first | rfl | (simp [plain1] at hp1)
        · cases h
    exact rawCell_ok hd h (hv.one_of_oneCell hone)
theorem rawVs_ok {fz : Nat → Nat → Option Value} {deep : Value → Value → Option (List Value)} (hd : ∀ {z v v' xs}, deep z v = some xs → VR1 μ v v' → DR fz (dsl z xs) v') (h1 : ∀ {z v xs}, deep z v = some xs → v.oneCell' = true) : ∀ {zs vs xs vs' : List Value}, rawVs deep zs vs = some xs → All2 (VR μ) vs vs' → All2 (DRa fz) xs vs'
  | [], [], xs, vs', h, hv => by
    simp only [rawVs, Option.some.injEq] at h; subst h
    rw [hv.inv_nil]; exact All2.nil
  | z :: zs, v :: vs, xs, vs', h, hv => by
    unfold rawVs at h
    split at h
    · rename_i x xs' hx hxs
      simp only [Option.some.injEq] at h; subst h
      obtain ⟨v', l, rfl, r, hl⟩ := hv.inv_cons
      exact All2.cons (rawV_ok hd h1 hx r) (rawVs_ok hd h1 hxs hl)
    · cases h
  | [], _ :: _, _, _, h, _ => by simp [rawVs] at h
  | _ :: _, [], _, _, h, _ => by simp [rawVs] at h

theorem dr_plain {fz : Nat → Nat → Option Value} {u v' : Value} (hp : plain1 u = true) (hd : DR fz u v') : v' = u := by
  cases hd with
  | plain _ => rfl
  | nil => simp [not_plain_dsl] at hp
  | sl _ _ _ _ _ => simp [not_plain_dsl] at hp
/-- What raw data stands for, its like with marks stands for. -/
theorem unraw1 {z c x v' : Value} (h : rawCell deep0 z c = some x) (hd : DR μ.z x v') : VR1 μ c v' := by
  unfold rawCell at h
  split at h
  · split at h
    · rename_i k' n hn
      split at h
      · rename_i hk; subst hk
        simp only [Option.some.injEq] at h; subst h
        rw [dr_plain rfl hd]
        exact VR1.den_iff.1 (by rw [hn]; exact .refl_plain rfl)
      · cases h
    · cases h
  · split at h
    · rename_i s hs
      simp only [Option.some.injEq] at h; subst h
      rw [dr_plain rfl hd]
      exact VR1.den_iff.1 (by rw [hs]; exact .refl_plain rfl)
    · cases h
  · split at h
    · simp only [Option.some.injEq] at h; subst h
      rw [dr_plain rfl hd]; exact .refl_plain rfl
    · rename_i f y
      split at h
      · rename_i b hf hy
        simp only [Option.some.injEq] at h; subst h
        rw [dr_plain rfl hd]
        have e1 : f = #[.bool b] := by rw [← Array.toList_inj, hf]
        have e2 : y = #[] := by rw [← Array.toList_inj, hy]
        subst e1; subst e2
        exact .zero .mbool
      · cases h
    · cases h
  · split at h
    · rename_i z' hf
      cases e : deep0 z' c with
      | none => rw [e] at h; cases h
      | some ys =>
        rw [e] at h
        simp only [Option.map_some, Option.some.injEq] at h; subst h
        unfold deep0 at e
        split at e
        · rename_i f' xs
          split at e
          · rename_i z0 hf'
            split at e
            · rename_i hz
              simp only [Option.some.injEq] at e; subst e
              have := zeq_eq hz; subst this
              have : f' = #[z0] := by rw [← Array.toList_inj, hf']
              subst this
              have : Value.func (Fn.yield 1) #[z0] xs = dsl z0 xs.toList := by simp [dsl]
              rw [this]
              exact .zero (.deep hd)
            · cases e
          · cases e
        · cases e
    · cases h
  · split at h
    · rename_i hp
      simp only [Bool.and_eq_true] at hp
      simp only [Option.some.injEq] at h; subst h
      have := vbeq1_eq hp.2; subst this
      rw [dr_plain hp.1 hd]; exact .refl_plain hp.1
    · cases h

theorem rawCells0 : ∀ {zs cs xs : List Value}, rawCells deep0 zs cs = some (xs, []) → cs.length = xs.length ∧ ∀ (i : Nat) c x, cs[i]? = some c → xs[i]? = some x → ∃ z, rawCell deep0 z c = some x
  | [], cs, xs, h => by
    simp only [rawCells, Option.some.injEq, Prod.mk.injEq] at h
    obtain ⟨rfl, rfl⟩ := h
    exact ⟨rfl, fun i c x hc => by simp at hc⟩
  | z :: zs, [], xs, h => by simp [rawCells] at h
  | z :: zs, c :: cs, xs, h => by
    unfold rawCells at h
    split at h
    · rename_i x hx
      split at h
      · rename_i xs' r hxs
        simp only [Option.some.injEq, Prod.mk.injEq] at h
        obtain ⟨rfl, rfl⟩ := h
        obtain ⟨h1, h2⟩ := rawCells0 hxs
        refine ⟨by simp [h1], fun i c' x' hc hx' => ?_⟩
        cases i with
        | zero => simp at hc hx'; subst hc; subst hx'; exact ⟨z, hx⟩
        | succ i => exact h2 i c' x' (by simpa using hc) (by simpa using hx')
      · cases h
    · cases h
theorem unraw {z c x v' : Value} (h : rawV deep0 z c = some x) (hd : DRa μ.z x v') : VRa μ c v' := by
  unfold rawV at h
  split at h
  · split at h
    · rename_i cs
      split at h
      · rename_i xs hxs
        simp only [Option.some.injEq] at h; subst h
        rcases hd with ⟨h1, _⟩ | ⟨xs', ys, h1, rfl, hys⟩
        · simp [isAggV] at h1
        · simp only [Value.agg.injEq] at h1; subst h1
          obtain ⟨h2, h3⟩ := rawCells0 hxs
          refine .agg ⟨by rw [h2, ← hys.1], fun i c hc => ?_⟩
          have hlt := (List.getElem?_eq_some_iff.1 hc).1
          have hx := List.getElem?_eq_getElem (l := xs) (i := i) (by omega)
          obtain ⟨y, hy, r⟩ := hys.2 i _ (show xs.toArray.toList[i]? = _ from by rw [List.toList_toArray]; exact hx)
          obtain ⟨z', hz'⟩ := h3 i c _ hc hx
          exact ⟨y, hy, unraw1 hz' r⟩
      · cases h
    · cases h
  · rcases hd with ⟨_, hd⟩ | ⟨xs', ys, h1, rfl, hys⟩
    · exact .one (unraw1 h hd)
    · have := rawCell_noAgg h
      rw [h1] at this; cases this
theorem unraws : ∀ {zs cs xs vs' : List Value}, rawVs deep0 zs cs = some xs → All2 (DRa μ.z) xs vs' → All2 (VRa μ) cs vs'
  | [], [], xs, vs', h, hv => by
    simp only [rawVs, Option.some.injEq] at h; subst h
    rw [hv.inv_nil]; exact All2.nil
  | z :: zs, v :: vs, xs, vs', h, hv => by
    unfold rawVs at h
    split at h
    · rename_i x xs' hx hxs
      simp only [Option.some.injEq] at h; subst h
      obtain ⟨v', l, rfl, r, hl⟩ := hv.inv_cons
      exact All2.cons (unraw hx r) (unraws hxs hl)
    · cases h
  | [], _ :: _, _, _, h, _ => by simp [rawVs] at h
  | _ :: _, [], _, _, h, _ => by simp [rawVs] at h
theorem rawVs_len {deep : Value → Value → Option (List Value)} : ∀ {zs cs xs : List Value}, rawVs deep zs cs = some xs → xs.length = cs.length
  | [], [], xs, h => by simp only [rawVs, Option.some.injEq] at h; subst h; rfl
  | z :: zs, v :: vs, xs, h => by
    unfold rawVs at h
    split at h
    · rename_i x xs' hx hxs
      simp only [Option.some.injEq] at h; subst h
      simp [rawVs_len hxs]
    · cases h
  | [], _ :: _, _, h => by simp [rawVs] at h
  | _ :: _, [], _, h => by simp [rawVs] at h

theorem freezeL_get : ∀ {l : List Nat} {h : Hp}, (freezeL h l).next = h.next ∧ ∀ b x, (freezeL h l).get b = some x → ∃ x0, h.get b = some x0 ∧ (x = x0 ∨ x = roB x0) ∧ (b ∈ l → isRowB x0 = true → x = roB x0)
  | [], h => ⟨rfl, fun b x hx => ⟨x, hx, .inl rfl, fun h => by simp at h⟩⟩
  | c :: l, h => by
    have roro : ∀ x, roB (roB x) = roB x := fun x => by cases x <;> rfl
    have rowro : ∀ x, isRowB (roB x) = isRowB x := fun x => by cases x <;> rfl
    unfold freezeL
    split
    · rename_i y hy
      have hcn := Hp.lt_of_get hy
      split
      · rename_i hrow
        obtain ⟨h1, h2⟩ := freezeL_get (l := l) (h := h.put c (some (roB y)))
        refine ⟨h1, fun b x hx => ?_⟩
        obtain ⟨x0, h3, h4, h5⟩ := h2 b x hx
        rw [Hp.get_put _ _ _ _ hcn] at h3
        split at h3
        · rename_i e; subst e
          simp only [Option.some.injEq] at h3; subst h3
          refine ⟨y, hy, .inr ?_, fun _ _ => ?_⟩ <;> (rcases h4 with rfl | rfl <;> simp [roro])
        · rename_i e
          refine ⟨x0, h3, h4, fun hb hr => ?_⟩
          rcases List.mem_cons.1 hb with rfl | hb
          · exact absurd rfl e
          · exact h5 hb hr
      · rename_i hrow
        obtain ⟨h1, h2⟩ := freezeL_get (l := l) (h := h)
        refine ⟨h1, fun b x hx => ?_⟩
        obtain ⟨x0, h3, h4, h5⟩ := h2 b x hx
        refine ⟨x0, h3, h4, fun hb hr => ?_⟩
        rcases List.mem_cons.1 hb with rfl | hb
        · rw [hy] at h3; simp only [Option.some.injEq] at h3; subst h3; exact absurd hr hrow
        · exact h5 hb hr
    · rename_i hy
      obtain ⟨h1, h2⟩ := freezeL_get (l := l) (h := h)
      refine ⟨h1, fun b x hx => ?_⟩
      obtain ⟨x0, h3, h4, h5⟩ := h2 b x hx
      refine ⟨x0, h3, h4, fun hb hr => ?_⟩
      rcases List.mem_cons.1 hb with rfl | hb
      · rw [hy] at h3; cases h3
      · exact h5 hb hr

/-- WHAT A CALL OF SUCH A FUNCTION COMES TO, from a world in which all that it looks at is frozen. -/
structure POut (z0 : Nat → Nat → Option Value) (base : Nat) (w : World) (F : PF) (d : F.D) (v' : Value) (w' : World) (z2 : Nat → Nat → Option Value) (tk : Option Pl) : Prop where
  below : RowKit.Below w.heap.size w w'
  zle : ∀ c i a, z0 c i = some a → z2 c i = some a
  znew : ∀ c i a, z2 c i = some a → z0 c i = some a ∨ w.heap.size ≤ c
  zheap : ∀ c i a, z2 c i = some a → ∃ arr e fr, w'.heap[c]? = some (.cells arr e fr) ∧ arr[i]? = some a
  val : ∀ {μ : Mu} {b : Nat}, μ.z = z2 → μ b = tk → VR μ (if F.fresh then (freshV (F.res d) b).getD (.bool false) else resV (F.res d)) v'
  isf : F.fresh = true → ∀ b, (freshV (F.res d) b).isSome = true
  tok : ∀ p, tk = some p → F.fresh = true ∧ w.heap.size ≤ p.c ∧ (∀ c i a, z2 c i = some a → p.c = c → i < p.s) ∧ ∃ arr e fr, w'.heap[p.c]? = some (.cells arr e fr) ∧ arr.size = p.N ∧ ∀ i, i < arr.size → ¬ (fr.1 ≤ i ∧ i < fr.2)

theorem asDeep_dsl {z : Value} {xs : List Value} : asDeep (dsl z xs) = some (z, xs) := by unfold asDeep dsl; rfl
theorem pf_out {P : Program} (hP : ProgOk P) {C : Con} (hC : ConOk P C) {call : Caller} (hcall : CallOk P call) (F : PF) {fi : FuncId} {fn : Func} {c : Code} (hf : P.funcs[fi]? = some fn) (hb : fn.body = some c) {n : Nat} {LS : Loops} {d : F.D}
    (hbd : lawV std P C call n LS fn c (F.args d) (hpOf []) (F.done d)) {z0 : Nat → Nat → Option Value} {base : Nat} {w : World} (hbase : base ≤ w.heap.size) (hz0 : ∀ c i a, z0 c i = some a → ∃ arr e fr, w.heap[c]? = some (.cells arr e fr) ∧ arr[i]? = some a)
    {xs : List Value} (hraw : rawVs deep0 F.zs (F.args d) = some xs) {args' : Array Value} (hl : All2 (DRa z0) xs args'.toList) :
    Does P fi args' w fun v' w' => ∃ z2 tk, POut z0 base w F d v' w' z2 tk := by
  have hargs : All2 (VRa ⟨fun _ => none, z0⟩) (F.args d) args'.toList := unraws (μ := ⟨fun _ => none, z0⟩) hraw hl
  have htr : TR ⟨fun _ => none, z0⟩ (F.args d ++ List.replicate (fn.ntmps - (F.args d).length) undef) (args' ++ Array.replicate (fn.ntmps - args'.size) undef) := by
    unfold TR
    rw [Array.toList_append, Array.toList_replicate]
    have : (F.args d).length = args'.size := by rw [hargs.1, Array.length_toList]
    rw [this]
    exact (hargs.mono fun _ _ _ r => .a r).append (All2.replicate _ (.undef _))
  have hget : ∀ b, (hpOf []).get b = none := fun b => by rw [hpOf_get]; simp
  have hrel : Rel ⟨fun _ => none, z0⟩ base (hpOf []).get w := ⟨hbase, fun _ _ _ h => (by cases h), fun _ _ _ _ _ _ h => (by cases h), fun c i a h => ⟨hz0 c i a h, fun _ _ _ h => (by cases h)⟩⟩
  rw [← lawV_eq] at hbd
  have hn := hP.name hf
  refine .inr ⟨by simp [callFunc, hf, hn, hb], ?_⟩
  refine calls_of_wp hf hb ?_
  refine (runV_ok hP hC hcall n).1 LS (hpOf []).next c _ _ (hP.code hf hb) hbd (hpOf []).next (Nat.le_refl _) (Nat.le_refl _) ⟨htr, rfl, hrel, fun _ _ => rfl⟩ fun ex s' a' w' μ' hdone hk hp => ?_
  have hbel : RowKit.Below w.heap.size w w' := ⟨hp.fr.os, hp.fr.tape, hp.fr.output, hp.fr.size, fun k hk => hp.fr.block k hk fun b p x h => by cases h⟩
  have key : ∀ {v : Value}, resultsA P fn s' = some v → F.done d v s'.h → ∃ v', (results fn a'.tmps).run P w' = .ok v' w' ∧ ∃ z2 tk, POut z0 base w F d v' w' z2 tk := by
    intro v hres hd
    obtain ⟨v', h2, h3⟩ := resultsA_run hres hp.cfg.tmps hp.cfg.rel
    refine ⟨v', h2, ?_⟩
    unfold PF.done at hd
    split at hd
    case h_2 => exact hd.elim
    rename_i vs hvs
    split at hd
    · -- a slice of its own
      rename_i hfresh
      split at hd
      case h_2 => exact hd.elim
      rename_i r hres'
      split at hd
      case h_2 => exact hd.elim
      rename_i z ys hdeep
      have hfv : ∀ b, freshV (F.res d) b = some (osl z ys b) := fun b => by unfold freshV; rw [hres']; simp only [hdeep]
      have hzold : ∀ c i a, μ'.z c i = some a → z0 c i = some a ∨ w.heap.size ≤ c := fun c i a h => by
        rcases hp.fz c i a h with h | h | ⟨b0, p0, x0, h1, _⟩
        · exact .inl h
        · exact .inr h
        · cases h1
      split at hd
      · -- nil
        rcases resL_rel hvs h3 with ⟨u, e, rfl, hnt⟩ | ⟨hl1, _⟩
        · simp only [List.cons.injEq, and_true] at e
          subst e
          subst hd
          refine ⟨μ'.z, none, hbel, fun c i a h => hp.zle c i a h, hzold, fun c i a h => (hp.cfg.rel.frz c i a h).1, fun {μ b} hz ht => ?_, fun _ b => by rw [hfv]; rfl, fun p h => by cases h⟩
          rw [if_pos hfresh, hfv, h3.eq_of_plain rfl]
          exact .zero (.osl .nil rfl (.inl rfl))
        · simp at hl1
      · rename_i f xs
        split at hd
        case h_2 => exact hd.elim
        rename_i z1 b hf'
        split at hd
        case isFalse => exact hd.elim
        rename_i hze
        have := zeq_eq hze; subst this
        split at hd
        case h_2 => exact hd.elim
        rename_i hgb
        subst hd
        have hf' : f = #[z1, .slice none b 0] := by rw [← Array.toList_inj, hf']
        subst hf'
        rcases resL_rel hvs h3 with ⟨u, e, rfl, hnt⟩ | ⟨hl1, _⟩
        · simp only [List.cons.injEq, and_true] at e
          subst e
          have e : Value.func (Fn.yield 5) #[z1, .slice none b 0] xs = osl z1 xs.toList b := by simp [osl, osq]
          rw [e] at h3
          obtain ⟨a, n', k, rfl, h5, h6, h7⟩ := (h3.zero_of_basic rfl).inv_osl
          refine ⟨μ'.z, μ' b, hbel, fun c i a h => hp.zle c i a h, hzold, fun c i a h => (hp.cfg.rel.frz c i a h).1, fun {μ b'} hz ht => ?_, fun _ b => by rw [hfv]; rfl, fun p hp' => ⟨hfresh, ?_, fun c i a h hcc => (hp.cfg.rel.frz c i a h).2 b p _ hp' hgb rfl hcc, ?_⟩⟩
          · rw [if_pos hfresh, hfv]
            refine .zero (.osl (by rw [hz]; exact h5) h6 (h7.imp id fun ⟨p, c, o, h8, h9, h10⟩ => ⟨rfl, p, c, o, h8, by rw [ht]; exact h9, h10⟩))
          · rcases hp.own b p _ hp' hgb with h | ⟨_, _, _, h, _⟩
            · exact h
            · cases h
          · obtain ⟨arr, e, fr, h8, h9, h10, h11⟩ := hp.cfg.rel.blk b p _ hp' hgb
            exact ⟨arr, e, fr, h8, h9, (h11 rfl).2.1⟩
        · simp at hl1
      · exact hd.elim
    · rename_i hfresh
      unfold sameO at hd
      split at hd
      case h_2 => exact hd.elim
      rename_i x y hx hy
      subst hd
      refine ⟨(muF μ' s'.h.get w' fun _ => True).z, none, hbel, fun c i a h => (muF_le hp.cfg.rel _).z _ _ _ (hp.zle c i a h), fun c i a h => ?_, fun c i a h => ((freeze_rel hp.cfg.rel fun _ => True).frz c i a h).1, fun {μ b} hz ht => ?_, fun h => absurd h hfresh, fun p h => by cases h⟩
      · rcases freeze_sim _ c i a h with h | h | ⟨b0, p0, x0, h1, h4, h5, h6⟩
        · rcases hp.fz c i a h with h | h | ⟨b0, p0, x0, h1, _⟩
          · exact .inl h
          · exact .inr h
          · cases h1
        · exact .inr (Nat.le_trans hp.fr.size h)
        · rcases hp.own b0 p0 x0 h1 h4 with h7 | ⟨_, _, _, h7, _⟩
          · exact .inr (by omega)
          · cases h7
      · rw [if_neg hfresh]
        have hd6 : ∀ {z v v' xs}, deepV s'.h (fun _ => true) 6 z v = some xs → VR1 μ' v v' → DR (muF μ' s'.h.get w' fun _ => True).z (dsl z xs) v' := fun hd hv => deepV_ok (fun _ _ => trivial) hp.cfg.rel 6 hd hv
        refine resV_rel ?_
        have hlen := rawVs_len hy
        have hlen2 := rawVs_len hx
        rcases resL_rel hvs h3 with ⟨u, rfl, rfl, hnt⟩ | ⟨hl1, ys, rfl, hys⟩
        · have h8 := rawVs_ok hd6 deepV_one hx (All2.cons h3 All2.nil)
          rw [← hz] at h8
          have h9 := unraws hy h8
          left
          obtain ⟨u0, e0⟩ := List.length_eq_one_iff.1 (show (F.res d).length = 1 by rw [← hlen, hlen2]; rfl)
          rw [e0] at h9
          obtain ⟨b', m', e1, e2, _⟩ := h9.inv_cons
          simp at e1
          exact ⟨u0, e0, by rw [e1.1]; exact e2⟩
        · have h8 := rawVs_ok hd6 deepV_one hx (hys.mono fun _ _ _ r => .a r)
          rw [← hz] at h8
          have h9 := unraws hy h8
          exact .inr ⟨by rw [← hlen, hlen2]; exact hl1, ys, rfl, h9⟩
  unfold resK at hdone
  split at hdone
  · split at hdone
    · rename_i v hres
      obtain ⟨v', h2, h3⟩ := key hres hdone
      exact ⟨hp.cfg.defers, v', h2, v', rfl, h3⟩
    · exact hdone.elim
  · split at hdone
    · rename_i v hres
      obtain ⟨v', h2, h3⟩ := key hres hdone
      exact ⟨hp.cfg.defers, v', h2, v', rfl, h3⟩
    · exact hdone.elim
  · exact hdone.elim

/-- What is behind a call, where some of the caller's blocks have been frozen. -/
theorem cout_p {F : PF} {h hF : Hp} {S : Nat → Prop} {d : F.D} {v' : Value} {w' : World} {z2 : Nat → Nat → Option Value} {tk : Option Pl} (hrel : Rel μ base h.get w) (hfree : ∀ b, h.next ≤ b → μ b = none)
    (hFn : hF.next = h.next) (hFg : ∀ b x, hF.get b = some x → gF h.get S b = some x ∨ ∃ x0, h.get b = some x0 ∧ x = roB x0) (hout : POut (muF μ h.get w S).z base w F d v' w' z2 tk) {K : Value → Hp → Prop} (hK : F.leave d hF K) :
    ∃ v h' μ', K v h' ∧ COut μ base h w v h' v' w' μ' ∧ (F.fresh = false → h' = hF ∧ v = resV (F.res d) ∧ ∀ b, μ' b = μ b) := by
  have hfz := freeze_rel hrel S
  have old : ∀ {c : Nat}, c < w.heap.size → w'.heap[c]? = w.heap[c]? := fun hc => hout.below.block _ hc
  have back : ∀ {b x}, hF.get b = some x → ∃ x0, h.get b = some x0 ∧ (ownB x = true → ownB x0 = true ∧ gF h.get S b = some x) ∧ (∀ {μ' : Mu} {w' : World} {p : Pl}, BR μ' base w' p x0 → BR μ' base w' p x) := by
    intro b x hx
    rcases hFg b x hx with h1 | ⟨x0, h1, rfl⟩
    · have h1' := h1
      unfold gF at h1'
      split at h1'
      · cases e : h.get b with
        | none => rw [e] at h1'; cases h1'
        | some x0 =>
          rw [e] at h1'
          simp only [Option.map_some, Option.some.injEq] at h1'; subst h1'
          exact ⟨x0, rfl, fun ho => ⟨(own_ro ho).1, h1⟩, fun hb => hb.ro⟩
      · exact ⟨x, h1', fun ho => ⟨ho, h1⟩, fun hb => hb⟩
    · refine ⟨x0, h1, fun ho => ⟨(own_ro ho).1, ?_⟩, fun hb => hb.ro⟩
      have hr := (own_ro ho).2
      unfold gF
      split
      · rw [h1]; rfl
      · rw [h1]; cases x0 <;> first | rfl | (simp [isRowB] at hr)
  have hnone : μ h.next = none := hfree _ (Nat.le_refl _)
  -- the numbers
  have main : ∀ (hh : Hp) (μ2 : Mu), μ2.z = z2 → (∀ b, b < h.next → μ2 b = μ b) → (∀ b, hh.next ≤ b → μ2 b = none) → h.next ≤ hh.next → (∀ b x p, hh.get b = some x → μ2 b = some p → (b < h.next ∧ hF.get b = some x) ∨ (b = h.next ∧ x = .cells [] false ∧ tk = some p)) → ∀ v, VR μ2 v v' → COut μ base h w v hh v' w' μ2 := by
    intro hh μ2 hz hlt hfr2 hnx hcase v hv
    have hle : Mu.le μ μ2 := by
      refine ⟨fun b p hb => ?_, fun c i a hc => ?_⟩
      · have hbl : b < h.next := by
          rcases Nat.lt_or_ge b h.next with h4 | h4
          · exact h4
          · rw [hfree b h4] at hb; cases hb
        rw [hlt b hbl]; exact hb
      · rw [hz]; exact hout.zle c i a ((muF_le hrel S).z c i a hc)
    refine ⟨hv, ⟨Nat.le_trans hrel.size hout.below.size, fun b p x hb hx => ?_, fun b b' p p' x x' hb hb' hx hx' hne ho => ?_, fun c i a hc => ⟨by rw [hz] at hc; exact hout.zheap c i a hc, fun b p x hb hx ho hcc => ?_⟩⟩, hfr2, ⟨hout.below.os, hout.below.tape, hout.below.output, hout.below.size, fun c hc _ => old hc⟩, fun b p x hb hx => ?_, fun i hi => hlt i hi, hnx, hle.z, fun c i a hc => ?_⟩
    · rcases hcase b x p hx hb with ⟨h1, h2⟩ | ⟨rfl, rfl, h2⟩
      · obtain ⟨x0, h3, _, h5⟩ := back h2
        rw [hlt b h1] at hb
        have h6 := hrel.blk b p x0 hb h3
        exact h5 (h6.keep hle (old h6.lt))
      · obtain ⟨_, h3, _, arr, e, fr, h4, h5, h6⟩ := hout.tok p h2
        exact ⟨arr, e, fr, h4, h5, fun i v hi => by simp at hi, fun _ => ⟨Nat.le_trans hrel.size h3, h6, fun h => by simp at h⟩⟩
    · rcases hcase b x p hx hb with ⟨h1, h2⟩ | ⟨rfl, rfl, h2⟩
      · rw [hlt b h1] at hb
        obtain ⟨x0, h3, h4, _⟩ := back h2
        rcases hcase b' x' p' hx' hb' with ⟨k1, k2⟩ | ⟨rfl, rfl, k2⟩
        · rw [hlt b' k1] at hb'
          obtain ⟨x0', k3, _, _⟩ := back k2
          exact hrel.inj b b' p p' x0 x0' hb hb' h3 k3 hne (h4 ho).1
        · obtain ⟨_, k3, _⟩ := hout.tok p' k2
          have := (hrel.blk b p x0 hb h3).lt
          omega
      · obtain ⟨_, h3, _⟩ := hout.tok p h2
        rcases hcase b' x' p' hx' hb' with ⟨k1, k2⟩ | ⟨rfl, rfl, k2⟩
        · rw [hlt b' k1] at hb'
          obtain ⟨x0', k3, _, _⟩ := back k2
          have := (hrel.blk b' p' x0' hb' k3).lt
          omega
        · exact absurd rfl hne
    · rw [hz] at hc
      rcases hcase b x p hx hb with ⟨h1, h2⟩ | ⟨rfl, rfl, h2⟩
      · rw [hlt b h1] at hb
        obtain ⟨x0, h3, h4, _⟩ := back h2
        rcases hout.znew c i a hc with h6 | h6
        · exact (hfz.frz c i a h6).2 b p x hb (h4 ho).2 ho hcc
        · have := (hrel.blk b p x0 hb h3).lt
          omega
      · exact (hout.tok p h2).2.2.1 c i a hc hcc
    · rcases hcase b x p hx hb with ⟨h1, h2⟩ | ⟨rfl, rfl, h2⟩
      · rw [hlt b h1] at hb
        obtain ⟨x0, h3, h4, _⟩ := back h2
        exact .inr ⟨b, p, x0, hb, h3, fun ho => (h4 ho).1, rfl⟩
      · exact .inl (hout.tok p h2).2.1
    · rw [hz] at hc
      rcases hout.znew c i a hc with h6 | h6
      · rcases freeze_sim S c i a h6 with h7 | h7 | h7
        · exact .inl h7
        · exact .inr (.inl h7)
        · exact .inr (.inr h7)
      · exact .inr (.inl h6)
  unfold PF.leave at hK
  split at hK
  · rename_i hfresh
    split at hK
    · rename_i v hv
      refine ⟨v, _, ⟨fun b => if b = h.next then tk else μ b, z2⟩, hK, main _ _ rfl (fun b hb => if_neg (by omega)) (fun b hb => ?_) (by simp [hFn]) (fun b x p hx hb => ?_) v ?_, fun h => by rw [hfresh] at h; cases h⟩
      · simp [hFn] at hb
        show (if b = h.next then tk else μ b) = none
        rw [if_neg (by omega)]; exact hfree b (by omega)
      · have hb : (if b = h.next then tk else μ b) = some p := hb
        rw [Hp.get_push, hFn] at hx
        split at hx
        · rename_i e
          rw [if_pos e] at hb
          simp only [Option.some.injEq] at hx
          exact .inr ⟨e, hx.symm, hb⟩
        · have := Hp.lt_of_get hx
          exact .inl ⟨by omega, hx⟩
      · have := hout.val (μ := ⟨fun b => if b = h.next then tk else μ b, z2⟩) (b := h.next) rfl (if_pos rfl)
        rw [if_pos hfresh] at this
        rw [hFn] at hv
        rw [hv] at this
        exact this
    · exact hK.elim
  · rename_i hfresh
    have htk : tk = none := by
      cases e : tk with
      | none => rfl
      | some p => exact absurd (hout.tok p e).1 hfresh
    refine ⟨_, hF, ⟨μ.f, z2⟩, hK, main hF ⟨μ.f, z2⟩ rfl (fun b hb => rfl) (fun b hb => hfree b (by omega)) (by omega) (fun b x p hx hb => ?_) _ ?_, fun _ => ⟨rfl, rfl, fun _ => rfl⟩⟩
    · have := Hp.lt_of_get hx
      exact .inl ⟨by omega, hx⟩
    · have := hout.val (μ := ⟨μ.f, z2⟩) (b := h.next) rfl (by rw [htk]; exact hnone)
      rw [if_neg hfresh] at this
      exact this

/-- Such a function keeps what is said of it. -/
structure PFOk (P : Program) (fi : FuncId) (F : PF) : Prop where
  out : ∀ {z0 : Nat → Nat → Option Value} {base : Nat} {w : World}, base ≤ w.heap.size → (∀ c i a, z0 c i = some a → ∃ arr e fr, w.heap[c]? = some (.cells arr e fr) ∧ arr[i]? = some a) →
    ∀ {d : F.D}, F.pre d → ∀ {xs : List Value}, rawVs deep0 F.zs (F.args d) = some xs → ∀ {args' : Array Value}, All2 (DRa z0) xs args'.toList → Does P fi args' w fun v' w' => ∃ z2 tk, POut z0 base w F d v' w' z2 tk
theorem pf_ok {P : Program} (hP : ProgOk P) {C : Con} (hC : ConOk P C) {call : Caller} (hcall : CallOk P call) (F : PF) {fi : FuncId} {fn : Func} {c : Code} (hf : P.funcs[fi]? = some fn) (hb : fn.body = some c) {n : Nat} {LS : F.D → Loops}
    (hbody : ∀ d, F.pre d → lawV std P C call n (LS d) fn c (F.args d) (hpOf []) (F.done d)) : PFOk P fi F :=
  ⟨fun {_ _ _} hbase hz0 {_} hpre {_} hraw {_} hl => pf_out hP hC hcall F hf hb (hbody _ hpre) hbase hz0 hraw hl⟩
theorem pcon_ok {P : Program} {F : PF} {fi : FuncId} (hF : PFOk P fi F) : ∀ args h K, pcon F args h K → CallSem P fi args h K := by
  intro args h K e μ base w args' hl hrel hfree
  unfold pcon at e
  split at e
  case h_2 => exact e.elim
  rename_i xs hxs
  split at e
  case h_2 => exact e.elim
  rename_i d hdec
  obtain ⟨hpre, hK⟩ := e
  have hraw := F.ok hxs hdec
  have hd : ∀ {z v v' xs}, deepV h (fun b => (bsOf h args).contains b) 6 z v = some xs → VR1 μ v v' → DR (muF μ h.get w fun b => b ∈ bsOf h args).z (dsl z xs) v' := fun hd hv => deepV_ok (S := fun b => b ∈ bsOf h args) (fun b hb => by simpa using hb) hrel 6 hd hv
  have hl2 := rawVs_ok hd deepV_one hxs hl
  have hfz := freeze_rel hrel fun b => b ∈ bsOf h args
  obtain ⟨f1, f2⟩ := freezeL_get (l := bsOf h args) (h := h)
  have conv : ∀ {v' : Value} {w' : World}, (∃ z2 tk, POut (muF μ h.get w fun b => b ∈ bsOf h args).z base w F d v' w' z2 tk) → ∃ v h' μ', K v h' ∧ COut μ base h w v h' v' w' μ' := by
    rintro v' w' ⟨z2, tk, hout⟩
    obtain ⟨v, h', μ', h1, h2, _⟩ := cout_p (S := fun b => b ∈ bsOf h args) hrel hfree f1 (fun b x hx => by
      obtain ⟨x0, h3, h4, h5⟩ := f2 b x hx
      by_cases hr : isRowB x0 = true ∧ b ∈ bsOf h args
      · exact .inr ⟨x0, h3, h5 hr.2 hr.1⟩
      · rcases h4 with rfl | rfl
        · left
          unfold gF
          split
          · rename_i hm
            rw [h3]
            have : isRowB x ≠ true := fun h => hr ⟨h, hm⟩
            cases x <;> first | rfl | (simp [isRowB] at this)
          · exact h3
        · exact .inr ⟨x0, h3, rfl⟩) hout hK
    exact ⟨v, h', μ', h1, h2⟩
  rcases hF.out (z0 := (muF μ h.get w fun b => b ∈ bsOf h args).z) hrel.size (fun c i a h => (hfz.frz c i a h).1) hpre hraw hl2 with ⟨v', w', h3, h4⟩ | ⟨h3, h4⟩
  · exact .inl ⟨v', w', h3, conv h4⟩
  · exact .inr ⟨h3, h4.mono fun en w' ⟨v', he, ho⟩ => ⟨v', he, conv ho⟩⟩
theorem dcon_ok {P : Program} {F : PF} (hnf : F.fresh = false) {fi : FuncId} (hF : PFOk P fi F) : ∀ args h K, dcon F args h K → FunSem P fi args h K := by
  intro args h K e
  unfold dcon at e
  split at e
  case h_2 => exact e.elim
  rename_i xs hxs
  split at e
  case h_2 => exact e.elim
  rename_i d hdec
  obtain ⟨hpre, hK⟩ := e
  have hraw := F.ok hxs hdec
  refine ⟨resV (F.res d), h, hK, Nat.le_refl _, fun {μ base w args'} hl hrel hfr => ?_⟩
  have hD := dvOk_none hrel
  have hl2 := rawVs_ok (μ := μ) (fz := μ.z) (fun hd hv => hD.ok hd hv) deepV_one hxs hl
  have conv : ∀ {v' : Value} {w' : World}, (∃ z2 tk, POut μ.z base w F d v' w' z2 tk) → ∃ μ', Out μ base h w (resV (F.res d)) h v' w' μ' := by
    rintro v' w' ⟨z2, tk, hout⟩
    have hnf' : ¬ F.fresh = true := by rw [hnf]; exact Bool.noConfusion
    have old : ∀ {c : Nat}, c < w.heap.size → w'.heap[c]? = w.heap[c]? := fun hc => hout.below.block _ hc
    have hle : Mu.le μ ⟨μ.f, z2⟩ := ⟨fun _ _ h => h, hout.zle⟩
    have hval : VR ⟨μ.f, z2⟩ (resV (F.res d)) v' := by
      have htk : tk = none := by
        cases e : tk with
        | none => rfl
        | some p => exact absurd (hout.tok p e).1 hnf'
      have hm : Mu.le ⟨fun b => if b = h.next then none else μ b, z2⟩ ⟨μ.f, z2⟩ := by
        refine ⟨fun b p hb => ?_, fun _ _ _ h => h⟩
        have hb : (if b = h.next then none else μ b) = some p := hb
        split at hb
        · cases hb
        · exact hb
      have hv := hout.val (μ := ⟨fun b => if b = h.next then none else μ b, z2⟩) (b := h.next) rfl (by rw [htk]; exact if_pos rfl)
      rw [if_neg hnf'] at hv
      exact hv.mono hm
    refine ⟨⟨μ.f, z2⟩, hval, ⟨hle, ⟨Nat.le_trans hrel.size hout.below.size, fun b p x hb hx => ?_, hrel.inj, fun c i a hc => ⟨hout.zheap c i a hc, fun b p x hb hx ho hcc => ?_⟩⟩, ⟨hout.below.os, hout.below.tape, hout.below.output, hout.below.size, fun c hc _ => old hc⟩, fun b p x hb hx => .inr ⟨b, p, x, hb, hx, id, rfl⟩, fun c i a hc => (hout.znew c i a hc).imp id .inl⟩, Nat.le_refl _, fun b hb => absurd rfl hb, .refl _ _⟩
    · have := hrel.blk b p x hb hx
      exact this.keep hle (old this.lt)
    · rcases hout.znew c i a hc with h6 | h6
      · exact (hrel.frz c i a h6).2 b p x hb hx ho hcc
      · have := (hrel.blk b p x hb hx).lt
        omega
  rcases hF.out (z0 := μ.z) hrel.size (fun c i a h => (hrel.frz c i a h).1) hpre hraw hl2 with ⟨v', w', h3, h4⟩ | ⟨h3, h4⟩
  · exact .inl ⟨v', w', h3, conv h4⟩
  · exact .inr ⟨h3, h4.mono fun en w' ⟨v', he, ho⟩ => ⟨v', he, conv ho⟩⟩
end

/-- A kind of data: a zero, a value with marks, what is read of raw data. -/
structure Cod (α : Type) where
  z : Value
  arg : α → Value
  dec : Value → Option α
  ok : ∀ {deep : Value → Value → Option (List Value)} {v x : Value} {a : α}, rawV deep z v = some x → dec x = some a → rawV deep0 z (arg a) = some x
  cell : ∀ {deep : Value → Value → Option (List Value)} {v x : Value} {a : α}, isAggV z = false → rawCell deep z v = some x → dec x = some a → rawCell deep0 z (arg a) = some x
theorem rawCell_int {deep : Value → Value → Option (List Value)} {k : IntKind} {n : Int} {v x : Value} (h : rawCell deep (.int k n) v = some x) : ∃ m, x = .int k m := by
  unfold rawCell at h
  simp only at h
  split at h
  · split at h
    · simp only [Option.some.injEq] at h; exact ⟨_, h.symm⟩
    · cases h
  · cases h
theorem rawCell_str {deep : Value → Value → Option (List Value)} {s : ByteArray} {v x : Value} (h : rawCell deep (.string s) v = some x) : ∃ m, x = .string m := by
  unfold rawCell at h
  simp only at h
  split at h
  · simp only [Option.some.injEq] at h; exact ⟨_, h.symm⟩
  · cases h
theorem rawCell_bool {deep : Value → Value → Option (List Value)} {s : Bool} {v x : Value} (h : rawCell deep (.bool s) v = some x) : ∃ m, x = .bool m := by
  unfold rawCell at h
  simp only at h
  split at h
  · simp only [Option.some.injEq] at h; exact ⟨_, h.symm⟩
  · split at h
    · simp only [Option.some.injEq] at h; exact ⟨_, h.symm⟩
    · cases h
  · cases h
theorem rawCell_dsl {deep : Value → Value → Option (List Value)} {z : Value} {v x : Value} (h : rawCell deep (dsl z []) v = some x) : ∃ xs, x = dsl z xs := by
  unfold rawCell dsl at h
  simp only at h
  cases e : deep z v with
  | none => rw [e] at h; cases h
  | some xs => rw [e] at h; simp only [Option.map_some, Option.some.injEq] at h; exact ⟨xs, h.symm⟩
def cI (k : IntKind) : Cod Int where
  z := .int k 0
  arg := fun n => mk (.int k n)
  dec := fun x => match x with | .int _ n => some n | _ => none
  ok := fun {deep v x a} h hd => by
    have h : rawCell deep (.int k 0) v = some x := h
    obtain ⟨m, rfl⟩ := rawCell_int h
    simp only [Option.some.injEq] at hd; subst hd
    show (if k = k then some (Value.int k m) else none) = _
    rw [if_pos rfl]
  cell := fun {deep v x a} _ h hd => by
    obtain ⟨m, rfl⟩ := rawCell_int h
    simp only [Option.some.injEq] at hd; subst hd
    show (if k = k then some (Value.int k m) else none) = _
    rw [if_pos rfl]
def cS : Cod ByteArray where
  z := .string ⟨#[]⟩
  arg := fun n => mk (.string n)
  dec := fun x => match x with | .string n => some n | _ => none
  ok := fun {deep v x a} h hd => by
    have h : rawCell deep (.string ⟨#[]⟩) v = some x := h
    obtain ⟨m, rfl⟩ := rawCell_str h
    simp only [Option.some.injEq] at hd; subst hd; rfl
  cell := fun {deep v x a} _ h hd => by
    obtain ⟨m, rfl⟩ := rawCell_str h
    simp only [Option.some.injEq] at hd; subst hd; rfl
def cB : Cod Bool where
  z := .bool false
  arg := fun n => mkb n
  dec := fun x => match x with | .bool n => some n | _ => none
  ok := fun {deep v x a} h hd => by
    have h : rawCell deep (.bool false) v = some x := h
    obtain ⟨m, rfl⟩ := rawCell_bool h
    simp only [Option.some.injEq] at hd; subst hd; rfl
  cell := fun {deep v x a} _ h hd => by
    obtain ⟨m, rfl⟩ := rawCell_bool h
    simp only [Option.some.injEq] at hd; subst hd; rfl
def cL (z : Value) (hz : zeq 5 z z = true) : Cod (List Value) where
  z := dsl z []
  arg := fun xs => dsl z xs
  dec := fun x => match x with | .func (.yield 1) _ xs => some xs.toList | _ => none
  ok := fun {deep v x a} h hd => by
    have h : rawCell deep (dsl z []) v = some x := h
    obtain ⟨m, rfl⟩ := rawCell_dsl h
    simp only [dsl, Option.some.injEq] at hd; subst hd
    show ((if zeq 5 z z then some m.toArray.toList else none).map fun xs => dsl z xs) = _
    rw [if_pos hz]; simp
  cell := fun {deep v x a} _ h hd => by
    obtain ⟨m, rfl⟩ := rawCell_dsl h
    simp only [dsl, Option.some.injEq] at hd; subst hd
    show ((if zeq 5 z z then some m.toArray.toList else none).map fun xs => dsl z xs) = _
    rw [if_pos hz]; simp
/-- A known value. -/
def cK (v : Value) (h0 : rawV deep0 v v = some v) (hq : ∀ deep u x, rawV deep v u = some x → x = v) (ha : isAggV v = false) : Cod Unit where
  z := v
  arg := fun _ => v
  dec := fun _ => some ()
  ok := fun {deep u x a} h _ => by rw [hq _ _ _ h]; exact h0
  cell := fun {deep u x a} _ h _ => by
    have e : ∀ (d : Value → Value → Option (List Value)) y, rawV d v y = rawCell d v y := fun d y => by
      unfold rawV
      split
      · simp [isAggV] at ha
      · rfl
    rw [hq deep u x (by rw [e]; exact h), ← e]; exact h0
/-- Cells one behind the other. -/
structure Cells (α : Type) where
  zs : List Value
  args : α → List Value
  dec : List Value → Option α
  ok : ∀ {deep : Value → Value → Option (List Value)} {cs xs r : List Value} {a : α}, rawCells deep zs cs = some (xs, r) → dec xs = some a → rawCells deep0 zs (args a) = some (xs, [])
def Cells.nil : Cells Unit where
  zs := []
  args := fun _ => []
  dec := fun xs => match xs with | [] => some () | _ => none
  ok := fun {deep cs xs r a} h hd => by
    simp only [rawCells, Option.some.injEq, Prod.mk.injEq] at h
    obtain ⟨rfl, rfl⟩ := h; rfl
def Cells.cons {α β : Type} (c : Cod α) (hc : isAggV c.z = false) (l : Cells β) : Cells (α × β) where
  zs := c.z :: l.zs
  args := fun a => c.arg a.1 :: l.args a.2
  dec := fun xs => match xs with
    | x :: r => match c.dec x, l.dec r with
      | some a, some b => some (a, b)
      | _, _ => none
    | [] => none
  ok := fun {deep cs xs r a} h hd => by
    cases cs with
    | nil => simp [rawCells] at h
    | cons u cs =>
      unfold rawCells at h
      split at h
      · rename_i x hx
        split at h
        · rename_i xs' r' hxs
          simp only [Option.some.injEq, Prod.mk.injEq] at h
          obtain ⟨rfl, rfl⟩ := h
          simp only at hd
          split at hd
          · rename_i a' b' ha hb
            simp only [Option.some.injEq] at hd; subst hd
            unfold rawCells
            simp only [c.cell hc hx ha, l.ok hxs hb]
          · cases hd
        · cases h
      · cases h
def cA {α : Type} (l : Cells α) : Cod α where
  z := .agg l.zs.toArray
  arg := fun a => .agg (l.args a).toArray
  dec := fun x => match x with | .agg cs => l.dec cs.toList | _ => none
  ok := fun {deep v x a} h hd => by
    unfold rawV at h
    simp only at h
    split at h
    · split at h
      · rename_i cs _ xs hxs
        simp only [Option.some.injEq] at h; subst h
        simp only at hd hxs
        unfold rawV
        simp only [l.ok hxs hd]
      · cases h
    · cases h
  cell := fun {deep v x a} h _ _ => by simp [isAggV] at h
/-- Arguments. -/
structure Args (α : Type) where
  zs : List Value
  args : α → List Value
  dec : List Value → Option α
  ok : ∀ {deep : Value → Value → Option (List Value)} {vs xs : List Value} {a : α}, rawVs deep zs vs = some xs → dec xs = some a → rawVs deep0 zs (args a) = some xs
def Args.nil : Args Unit where
  zs := []
  args := fun _ => []
  dec := fun xs => match xs with | [] => some () | _ => none
  ok := fun {deep vs xs a} h hd => by
    cases vs with
    | nil => simp only [rawVs, Option.some.injEq] at h; subst h; rfl
    | cons _ _ => simp [rawVs] at h
def Args.cons {α β : Type} (c : Cod α) (l : Args β) : Args (α × β) where
  zs := c.z :: l.zs
  args := fun a => c.arg a.1 :: l.args a.2
  dec := fun xs => match xs with
    | x :: r => match c.dec x, l.dec r with
      | some a, some b => some (a, b)
      | _, _ => none
    | [] => none
  ok := fun {deep vs xs a} h hd => by
    cases vs with
    | nil => simp [rawVs] at h
    | cons u vs =>
      unfold rawVs at h
      split at h
      · rename_i x xs' hx hxs
        simp only [Option.some.injEq] at h; subst h
        simp only at hd
        split at hd
        · rename_i a' b' ha hb
          simp only [Option.some.injEq] at hd; subst hd
          unfold rawVs
          simp only [c.ok hx ha, l.ok hxs hb]
        · cases hd
      · cases h
/-- A function of such arguments. -/
def pf {α : Type} (A : Args α) (pre : α → Prop) (zr : List Value) (res : α → List Value) (fresh : Bool := false) : PF := ⟨α, A.zs, A.args, A.dec, A.ok, pre, zr, res, fresh⟩

section
variable {μ : Mu} {base : Nat} {w : World}
end
end Go.Abs
