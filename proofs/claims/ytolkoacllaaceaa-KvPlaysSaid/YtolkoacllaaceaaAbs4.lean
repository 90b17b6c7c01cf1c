/-
  THE ABSTRACT EVALUATOR AND THE MODEL: each operation that looks at no memory comes to what the model comes to.
-/
import Derived.Test.YtolkoacllaaceaaAbs3
namespace Go.Abs
open Go

section
variable {P : Program} {μ : Mu}

theorem szA_run {t : TypeId} {n : Nat} (h : szA P t = some n) (w : World) : (sizeOf t).run P w = .ok n w := by
  unfold szA at h
  cases hi : P.info? t with
  | none => simp [hi] at h
  | some i => simp [hi] at h; subst h; simp [sizeOf, typeInfo, hi]

theorem isAgg_run {t : TypeId} {d : TypeDesc} (h : P.underlying t = some d) (w : World) : (isAgg t).run P w = .ok (isAggD d) w := by
  unfold isAgg
  simp only [Sem.run_bind, run_underlying h, Result.andThen_ok]
  cases d <;> rfl

theorem zeroA_run {t : TypeId} {z : Value} (h : zeroA P t = some z) (w : World) : (zeroValue t).run P w = .ok z w ∧ plainA z = true := by
  unfold zeroA at h
  cases hi : P.info? t with
  | none => simp [hi] at h
  | some i =>
    simp only [hi] at h
    cases hz : i.zero with
    | none => simp [hz] at h
    | some x =>
      simp only [hz] at h
      split at h
      · rename_i hp
        simp at h; subst h
        exact ⟨by simp [zeroValue, typeInfo, hi, hz], hp⟩
      · cases h

theorem filterPlain_some {x : Option Value} {v : Value} (h : filterPlain x = some v) : x = some v ∧ plainV v = true := by
  unfold filterPlain at h
  split at h
  · split at h
    · rename_i hp; simp at h; subst h; exact ⟨rfl, hp⟩
    · cases h
  · cases h

theorem evalPlain {s : Sem Value} {v : Value} (h : filterPlain (evalSem P s) = some v) (w : World) : s.run P w = .ok v w ∧ VR μ v v := by
  obtain ⟨h1, h2⟩ := filterPlain_some h
  exact ⟨evalSem_run P s v h1 w, .refl_plain h2⟩

theorem eqGuard_none (op : BinOp) (t : TypeId) (x y : Operand) (a b : Value) (h : ¬ (a = .nilIface ∧ b = .nilIface)) (h2 : ¬ ∃ xs ys, a = .agg xs ∧ b = .agg ys) :
    eqGuard op t x y a b = pure () := by
  by_cases ho : op = .eql ∨ op = .neq
  · rcases ho with rfl | rfl <;> cases a <;> cases b <;>
      first | rfl | exact absurd ⟨rfl, rfl⟩ h | exact absurd ⟨_, _, rfl, rfl⟩ h2
  · cases op <;> first | rfl | simp at ho

theorem strOp_run {op : BinOp} {x y : ByteArray} {v : Value} (h : strOp op x y = some v) (w : World) : (Op.stringOp op x y).run P w = .ok v w ∧ plainV v = true := by
  cases op <;> simp only [strOp, Op.stringOp, ByteArray.toList_eq] at h ⊢
  case add =>
    split at h
    · cases h
    · rename_i hn
      simp only [Option.some.injEq] at h; subst h
      rw [if_neg hn]
      exact ⟨rfl, rfl⟩
  all_goals first
    | (simp only [Option.some.injEq] at h; subst h; exact ⟨rfl, rfl⟩)
    | cases h

theorem VR.inv_string {s : ByteArray} {v : Value} (h : VR μ (.string s) v) : v = .string s := h.eq_of_plain rfl
theorem VR.inv_bool {s : Bool} {v : Value} (h : VR μ (.bool s) v) : v = .bool s := h.eq_of_plain rfl
theorem VR.inv_int {k : IntKind} {n : Int} {v : Value} (h : VR μ (.int k n) v) : v = .int k n := h.eq_of_plain rfl

/-- What stands for a pointer. -/
theorem VR.inv_ptr {b o : Nat} {v : Value} (h : VR μ (.pointer (some ⟨b, o, none⟩)) v) : ∃ p, μ b = some p ∧ v = .pointer (some ⟨p.c, o + p.s, none⟩) := by
  cases h with
  | a e => cases e with
    | one e => cases e with
      | zero e => cases e with
        | plain h => simp [Abs.plain1] at h
        | ptr e => exact ⟨_, e, rfl⟩
theorem VR.inv_ptr_spot {b o : Nat} {i : Nat} {v : Value} (h : VR μ (.pointer (some ⟨b, o, some i⟩)) v) : False := by
  cases h with
  | a e => cases e with
    | one e => cases e with
      | zero e => cases e with
        | plain h => simp [Abs.plain1] at h
theorem VR.inv_slice {b o n k : Nat} {v : Value} (h : VR μ (.slice (some ⟨b, o, none⟩) n k) v) :
    (∃ p k', μ b = some p ∧ v = .slice (some ⟨p.c, o + p.s, none⟩) n k' ∧ n ≤ k' ∧ ((UNK0 ≤ k ∧ o + p.s + k' * (k - UNK0) ≤ p.N) ∨ (k = k' ∧ k < UNK0))) ∨
    (n = 0 ∧ (UNK0 ≤ k ∨ k = 0) ∧ ∃ a', (∃ p, μ b = some p) ∧ v = .slice (some a') 0 0) := by
  cases h with
  | a e => cases e with
    | one e => cases e with
      | zero e => cases e with
        | plain h => simp [Abs.plain1] at h
        | slice e h1 h2 => exact .inl ⟨_, _, e, rfl, h1, h2⟩
        | slice0 e1 e => exact .inr ⟨rfl, e, _, ⟨_, e1⟩, rfl⟩
theorem VR.inv_slice_spot {b o i n k : Nat} {v : Value} (h : VR μ (.slice (some ⟨b, o, some i⟩) n k) v) : False := by
  cases h with
  | a e => cases e with
    | one e => cases e with
      | zero e => cases e with
        | plain h => simp [Abs.plain1] at h
theorem VR.inv_slice_nil {n k : Nat} {v : Value} (h : VR μ (.slice none n k) v) : n = 0 ∧ k = 0 ∧ v = .slice none 0 0 := by
  cases h with
  | a e => cases e with
    | one e => cases e with
      | zero e => cases e with
        | plain h => cases n <;> cases k <;> simp_all [Abs.plain1]
theorem VR.inv_map {b : Nat} {v : Value} (h : VR μ (.map (some b)) v) : ∃ p, μ b = some p ∧ v = .map (some p.c) := by
  cases h with
  | a e => cases e with
    | one e => cases e with
      | zero e => cases e with
        | plain h => simp [Abs.plain1] at h
        | map e => exact ⟨_, e, rfl⟩
theorem VR.inv_agg {xs : Array Value} {v : Value} (h : VR μ (.agg xs) v) : ∃ ys, v = .agg ys ∧ All2 (VR1 μ) xs.toList ys.toList := by
  cases h with
  | a e => cases e with
    | one e => have := e.oneCell.1; simp [Value.oneCell'] at this
    | agg e => exact ⟨_, rfl, e⟩
theorem VR.inv_tuple {xs : Array Value} {v : Value} (h : VR μ (.tuple xs) v) : (∃ ys, v = .tuple ys ∧ All2 (VRa μ) xs.toList ys.toList) ∨ xs = #[.tuple #[]] := by
  cases h with
  | a e => cases e with
    | one e => have := e.oneCell.1; simp [Value.oneCell'] at this
  | tup e => exact .inl ⟨_, rfl, e⟩
  | dead => exact .inr rfl
theorem VR.inv_func {f : Fn} {a b : Array Value} {v : Value} (h : VR μ (.func f a b) v) (hy : isYield f = false) : ∃ a' b', v = .func f a' b' ∧ All2 (VR0 μ) a.toList a'.toList ∧ All2 (VR0 μ) b.toList b'.toList := by
  cases h with
  | a e => cases e with
    | one e => cases e with
      | zero e => cases e with
        | plain h =>
          simp only [Abs.plain1, Bool.and_eq_true, Array.isEmpty_iff] at h
          obtain ⟨rfl, rfl⟩ := h
          exact ⟨_, _, rfl, All2.nil, All2.nil⟩
        | mark _ _ => simp [isYield] at hy
        | deep _ => simp [isYield] at hy
        | osl _ _ _ => simp [isYield] at hy
        | fptr _ _ _ => simp [isYield] at hy
        | rptr _ => simp [isYield] at hy
        | mbool => simp [isYield] at hy
      | func e0 e1 e2 => exact ⟨_, _, rfl, e1, e2⟩
theorem VR.inv_iface {t : TypeId} {x v : Value} (h : VR μ (.iface t x) v) : ∃ y, v = .iface t y ∧ VR0 μ x y := by
  cases h with
  | a e => cases e with
    | one e => cases e with
      | zero e => cases e with
        | plain h => simp [Abs.plain1] at h
      | iface e => exact ⟨_, rfl, e⟩

/-- A pointer against nil, a slice against nil, a map against nil. -/
theorem eqA_run {t : TypeId} {a b a' b' : Value} {r : Bool} (h : eqA P t a b = some r) (ha : VR μ a a') (hb : VR μ b b') (w : World) :
    (Op.equal t a' b').run P w = .ok r w ∧ (¬ (a' = .nilIface ∧ b' = .nilIface)) ∧ (¬ ∃ xs ys, a' = .agg xs ∧ b' = .agg ys) ∧
    binOp .eql t a' b' = (Op.equal t a' b' >>= fun r => pure (.bool r)) ∧ binOp .neq t a' b' = (Op.equal t a' b' >>= fun r => pure (.bool !r)) := by
  unfold eqA at h
  split at h
  · -- pointer nil, pointer
    rename_i e x hu
    simp only [Option.some.injEq] at h; subst h
    have h1 := ha.eq_of_plain (v := .pointer none) rfl
    subst h1
    have hb' : ∃ y : Option Addr, b' = .pointer y ∧ y.isNone = x.isNone := by
      cases x with
      | none => exact ⟨none, hb.eq_of_plain rfl, rfl⟩
      | some a =>
        obtain ⟨b, o, sp⟩ := a
        cases sp with
        | none => obtain ⟨p, _, rfl⟩ := hb.inv_ptr; exact ⟨_, rfl, rfl⟩
        | some i => exact (hb.inv_ptr_spot).elim
    obtain ⟨y, rfl, hy⟩ := hb'
    refine ⟨?_, by simp, by simp, rfl, rfl⟩
    · rw [← hy]; rw [Op.equal, Op.maxDepth, Op.equalIn]; simp only [Sem.run_bind, run_underlying hu, Result.andThen_ok]; rfl
  · rename_i e x hu
    simp only [Option.some.injEq] at h; subst h
    have h1 := hb.eq_of_plain (v := .pointer none) rfl
    subst h1
    have ha' : ∃ y : Addr, a' = .pointer (some y) := by
      obtain ⟨b, o, sp⟩ := x
      cases sp with
      | none => obtain ⟨p, _, rfl⟩ := ha.inv_ptr; exact ⟨_, rfl⟩
      | some i => exact (ha.inv_ptr_spot).elim
    obtain ⟨y, rfl⟩ := ha'
    refine ⟨?_, by simp, by simp, rfl, rfl⟩
    · rw [Op.equal, Op.maxDepth, Op.equalIn]; simp only [Sem.run_bind, run_underlying hu, Result.andThen_ok]; rfl
  · rename_i e n k x m l hu
    simp only [Option.some.injEq] at h; subst h
    obtain ⟨rfl, rfl, rfl⟩ := ha.inv_slice_nil
    have hb' : ∃ (y : Option Addr) (m' l' : Nat), b' = .slice y m' l' ∧ y.isNone = x.isNone := by
      cases x with
      | none => obtain ⟨rfl, rfl, rfl⟩ := hb.inv_slice_nil; exact ⟨none, _, _, rfl, rfl⟩
      | some a =>
        obtain ⟨b, o, sp⟩ := a
        cases sp with
        | none =>
          rcases hb.inv_slice with ⟨p, k', _, rfl, _⟩ | ⟨rfl, _, a', _, rfl⟩
          · exact ⟨_, _, _, rfl, rfl⟩
          · exact ⟨_, _, _, rfl, rfl⟩
        | some i => exact (hb.inv_slice_spot).elim
    obtain ⟨y, m', l', rfl, hy⟩ := hb'
    refine ⟨?_, by simp, by simp, rfl, rfl⟩
    · rw [← hy]; rw [Op.equal, Op.maxDepth, Op.equalIn]; simp only [Sem.run_bind, run_underlying hu, Result.andThen_ok]; rfl
  · rename_i e x n k m l hu
    simp only [Option.some.injEq] at h; subst h
    obtain ⟨rfl, rfl, rfl⟩ := hb.inv_slice_nil
    have ha' : ∃ (y : Addr) (m' l' : Nat), a' = .slice (some y) m' l' := by
      obtain ⟨b, o, sp⟩ := x
      cases sp with
      | none =>
        rcases ha.inv_slice with ⟨p, k', _, rfl, _⟩ | ⟨rfl, _, a', _, rfl⟩
        · exact ⟨_, _, _, rfl⟩
        · exact ⟨_, _, _, rfl⟩
      | some i => exact (ha.inv_slice_spot).elim
    obtain ⟨y, m', l', rfl⟩ := ha'
    refine ⟨?_, by simp, by simp, rfl, rfl⟩
    · rw [Op.equal, Op.maxDepth, Op.equalIn]; simp only [Sem.run_bind, run_underlying hu, Result.andThen_ok]; rfl
  · rename_i k e x hu
    simp only [Option.some.injEq] at h; subst h
    have h1 := ha.eq_of_plain (v := .map none) rfl
    subst h1
    have hb' : ∃ y : Option Nat, b' = .map y ∧ y.isNone = x.isNone := by
      cases x with
      | none => exact ⟨none, hb.eq_of_plain rfl, rfl⟩
      | some a => obtain ⟨p, _, rfl⟩ := hb.inv_map; exact ⟨_, rfl, rfl⟩
    obtain ⟨y, rfl, hy⟩ := hb'
    refine ⟨?_, by simp, by simp, rfl, rfl⟩
    · rw [← hy]; rw [Op.equal, Op.maxDepth, Op.equalIn]; simp only [Sem.run_bind, run_underlying hu, Result.andThen_ok]; rfl
  · rename_i k e x hu
    simp only [Option.some.injEq] at h; subst h
    have h1 := hb.eq_of_plain (v := .map none) rfl
    subst h1
    obtain ⟨p, _, rfl⟩ := ha.inv_map
    refine ⟨?_, by simp, by simp, rfl, rfl⟩
    · rw [Op.equal, Op.maxDepth, Op.equalIn]; simp only [Sem.run_bind, run_underlying hu, Result.andThen_ok]; rfl
  · cases h

theorem binA_run {op : BinOp} {t : TypeId} {x y : Operand} {a b a' b' v : Value} (h : binA P op t x y a b = some v) (ha : VR μ a a') (hb : VR μ b b') (w : World) :
    ∃ v', (do eqGuard op t x y a' b'; binOp op t a' b' : Sem Value).run P w = .ok v' w ∧ VR μ v v' := by
  unfold binA at h
  split at h
  · rename_i s u
    have h1 := ha.inv_string
    have h2 := hb.inv_string
    subst h1; subst h2
    obtain ⟨hr, hp⟩ := strOp_run (P := P) h w
    refine ⟨v, ?_, .refl_plain hp⟩
    rw [eqGuard_none _ _ _ _ _ _ (by simp) (by simp)]
    have hb : binOp op t (.string s) (.string u) = Op.stringOp op s u := by cases op <;> rfl
    simp only [Sem.run_bind, Sem.run_pure, Result.andThen_ok, hb, hr]
  · split at h
    · rename_i hp
      simp only [Bool.and_eq_true] at hp
      have h1 := ha.eq_of_plain hp.1
      have h2 := hb.eq_of_plain hp.2
      subst h1; subst h2
      obtain ⟨hr, hv⟩ := evalPlain (μ := μ) h w
      exact ⟨v, hr, hv⟩
    · split at h
      · cases hr : eqA P t a b with
        | none => simp [hr] at h
        | some r =>
          simp [hr] at h; subst h
          obtain ⟨h1, h2, h3, h4, h5⟩ := eqA_run hr ha hb w
          refine ⟨.bool r, ?_, .plain1 rfl⟩
          rw [eqGuard_none _ _ _ _ _ _ h2 h3, h4]
          simp [h1]
      · cases hr : eqA P t a b with
        | none => simp [hr] at h
        | some r =>
          simp [hr] at h; subst h
          obtain ⟨h1, h2, h3, h4, h5⟩ := eqA_run hr ha hb w
          refine ⟨.bool !r, ?_, .plain1 rfl⟩
          rw [eqGuard_none _ _ _ _ _ _ h2 h3, h5]
          simp [h1]
      · cases h

theorem partA_run {t : TypeId} {cs : List Value} {cs' : Array Value} {off : Nat} {v : Value} (h : partA P t cs off = some v) (hr : All2 (VR1 μ) cs cs'.toList) (w : World) :
    ∃ v', (part t cs' off).run P w = .ok v' w ∧ VR μ v v' := by
  unfold partA at h
  split at h
  · rename_i d n hu hn
    unfold part
    simp only [Sem.run_bind, isAgg_run hu, Result.andThen_ok]
    cases hd : isAggD d with
    | true =>
      simp only [hd, if_true] at h ⊢
      split at h
      · rename_i hl
        simp only [Option.some.injEq] at h; subst h
        simp only [Sem.run_bind, szA_run hn, Result.andThen_ok, Sem.run_pure]
        refine ⟨_, rfl, .agg ?_⟩
        have := (hr.drop off).take n
        simpa [Array.toList_extract, List.extract_eq_take_drop] using this
      · cases h
    | false =>
      simp only [hd, Bool.false_eq_true, if_false] at h ⊢
      obtain ⟨v', hv', r⟩ := hr.2 off v h
      rw [Array.getElem?_toList] at hv'
      rw [hv']
      exact ⟨v', rfl, .one r⟩
  · cases h

theorem fieldA_run {t : TypeId} {x x' v : Value} {f : Nat} (h : fieldA P t x f = some v) (hx : VR μ x x') (w : World) :
    ∃ v', (Instr.field t x' f).run P w = .ok v' w ∧ VR μ v v' := by
  unfold fieldA at h
  split at h
  · rename_i fs cs hu
    split at h
    · rename_i fd hf
      obtain ⟨ys, rfl, hys⟩ := hx.inv_agg
      obtain ⟨v', hr, hv⟩ := partA_run h hys w
      exact ⟨v', by simp [Instr.field, run_underlying hu, hf, asAgg, hr], hv⟩
    · cases h
  · cases h

theorem indexA_run {t : TypeId} {x x' i i' v : Value} (h : indexA P t x i = some v) (hx : VR μ x x') (hi : VR μ i i') (w : World) :
    ∃ v', (Instr.index t x' i').run P w = .ok v' w ∧ VR μ v v' := by
  unfold indexA at h
  split at h
  · rename_i k n
    have := hi.inv_int; subst this
    split at h
    · rename_i len elem cs hu
      split at h
      · rename_i sz hsz
        split at h
        · rename_i hb
          obtain ⟨ys, rfl, hys⟩ := hx.inv_agg
          obtain ⟨v', hr, hv⟩ := partA_run h hys w
          exact ⟨v', by simp [Instr.index, asIntOf, run_underlying hu, hb, szA_run hsz, hr], hv⟩
        · cases h
      · cases h
    · rename_i s hu
      have := hx.inv_string; subst this
      split at h
      · rename_i h0
        cases hb : s.data.toList[n.toNat]? with
        | none => rw [hb] at h; cases h
        | some b =>
          rw [hb] at h; simp at h; subst h
          refine ⟨_, ?_, .plain1 rfl⟩
          have hs : s[n.toNat]? = some b := by
            rw [Array.getElem?_toList] at hb
            have hlt : n.toNat < s.size := by
              have := (Array.getElem?_eq_some_iff.1 hb).1
              exact this
            have hg := (Array.getElem?_eq_some_iff.1 hb).2
            rw [getElem?_pos s n.toNat hlt]
            congr 1
          simp [Instr.index, asIntOf, run_underlying hu, h0, hs]
      · cases h
    · cases h
  · cases h

theorem fieldAddrA_run {t : TypeId} {x x' v : Value} {f : Nat} (h : fieldAddrA P t x f = some v) (hx : VR μ x x') (w : World) :
    ∃ v', (Instr.fieldAt t x' f).run P w = .ok v' w ∧ VR μ v v' := by
  unfold fieldAddrA at h
  split at h
  · rename_i fs b o hu
    split at h
    · rename_i fd hf
      split at h
      · rename_i n hsz
        simp only [Option.some.injEq] at h; subst h
        obtain ⟨p, hp, rfl⟩ := hx.inv_ptr
        refine ⟨.pointer (some ⟨p.c, o + fd.offset + p.s, none⟩), ?_, .zero (.ptr hp)⟩
        have hadd : (⟨p.c, o + p.s, none⟩ : Addr).add fd.offset = ⟨p.c, o + fd.offset + p.s, none⟩ := by
          unfold Addr.add; split
          · simp_all
          · simp; omega
        simp [Instr.fieldAt, run_underlying hu, hf, Instr.sureAddr, fieldPlace, szA_run hsz, hadd]
      · cases h
    · cases h
  · cases h

theorem indexAddrA_run {t : TypeId} {x x' i i' v : Value} (h : indexAddrA P t x i = some v) (hx : VR μ x x') (hi : VR μ i i') (w : World) :
    ∃ v', (Instr.indexAt t x' i').run P w = .ok v' w ∧ VR μ v v' := by
  unfold indexAddrA at h
  split at h
  · rename_i k n
    have := hi.inv_int; subst this
    split at h
    · rename_i len elem b o hu
      split at h
      · rename_i sz hsz
        split at h
        · rename_i hb
          simp only [Option.some.injEq] at h; subst h
          obtain ⟨p, hp, rfl⟩ := hx.inv_ptr
          refine ⟨.pointer (some ⟨p.c, o + n.toNat * sz + p.s, none⟩), ?_, .zero (.ptr hp)⟩
          have hadd : (⟨p.c, o + p.s, none⟩ : Addr).add (n.toNat * sz) = ⟨p.c, o + n.toNat * sz + p.s, none⟩ := by
            unfold Addr.add; split
            · simp_all
            · simp; omega
          simp [Instr.indexAt, asIntOf, run_underlying hu, Instr.sureAddr, hb, szA_run hsz, hadd]
        · cases h
      · cases h
    · rename_i elem b o len cap hu
      split at h
      · rename_i sz hsz
        split at h
        · rename_i hb
          simp only [Option.some.injEq] at h; subst h
          rcases hx.inv_slice with ⟨p, k', hp, rfl, _⟩ | ⟨rfl, _⟩
          · refine ⟨.pointer (some ⟨p.c, o + n.toNat * sz + p.s, none⟩), ?_, .zero (.ptr hp)⟩
            have hadd : (⟨p.c, o + p.s, none⟩ : Addr).add (n.toNat * sz) = ⟨p.c, o + n.toNat * sz + p.s, none⟩ := by
              unfold Addr.add; split
              · simp_all
              · simp; omega
            simp [Instr.indexAt, asIntOf, run_underlying hu, hb, szA_run hsz, hadd]
          · omega
        · cases h
      · cases h
    · cases h
  · cases h

theorem boundA_some {x x' : Option Value} {d m r : Nat} (h : boundA x d m = some r) (hx : ∀ v, x = some v → ∃ v', x' = some v' ∧ VR μ v v') (hn : x = none → x' = none) :
    (x' = none ∧ r = d) ∨ ∃ k n, x' = some (.int k n) ∧ 0 ≤ n ∧ n ≤ m ∧ r = n.toNat := by
  unfold boundA at h
  split at h
  · simp at h; exact .inl ⟨hn rfl, h.symm⟩
  · rename_i k n
    split at h
    · rename_i hb
      simp at h
      obtain ⟨v', hv', r'⟩ := hx _ rfl
      have := r'.inv_int; subst this
      exact .inr ⟨k, n, hv', hb.1, hb.2, h.symm⟩
    · cases h
  · cases h

/-- The operands of a slice expression: each stands for its like. -/
def OptR (μ : Mu) (x x' : Option Value) : Prop := (∀ v, x = some v → ∃ v', x' = some v' ∧ VR μ v v') ∧ (x = none → x' = none)

theorem optR_map {ρ ρ' : Operand → Value} {x : Option Operand} (h : ∀ y, x = some y → VR μ (ρ y) (ρ' y)) : OptR μ (x.map ρ) (x.map ρ') := by
  cases x with
  | none => exact ⟨fun v h => (by cases h), fun _ => rfl⟩
  | some y => exact ⟨fun v e => (by simp at e; subst e; exact ⟨_, rfl, h y rfl⟩), fun e => (by cases e)⟩

theorem run_bound_of {x x' : Option Value} {d m r : Nat} (h : boundA x d m = some r) (hx : OptR μ x x') (code : BoundsCode) (m' : Nat) (hm : m ≤ m') (w : World) :
    (∀ v, x' = some v → (Instr.sliceBound v m' code).run P w = .ok r w) ∧ (x' = none → r = d) := by
  rcases boundA_some h hx.1 hx.2 with ⟨rfl, rfl⟩ | ⟨k, n, rfl, h0, h1, rfl⟩
  · exact ⟨fun v h => (by cases h), fun _ => rfl⟩
  · refine ⟨fun v e => ?_, fun e => (by cases e)⟩
    simp at e; subst e
    exact run_sliceBound w k n m' code h0 (by omega)

theorem sliceBounds_run {b : Bool} {len cap : Nat} {lo hi mx lo' hi' mx' : Option Value} {l h m : Nat} {known : Nat} (hk : known ≤ cap)
    (hmx : OptR μ mx mx') (hhi : OptR μ hi hi') (hlo : OptR μ lo lo')
    (e : (mx = none ∧ boundA hi len known = some h ∧ m = cap) ∨ (∃ x y, mx = some x ∧ hi = some y ∧ boundA mx 0 known = some m ∧ boundA hi 0 m = some h))
    (el : boundA lo 0 h = some l) (w : World) : (Instr.sliceBounds b len cap lo' hi' mx').run P w = .ok (l, h, m) w := by
  have low : ∀ code v, lo' = some v → (Instr.sliceBound v h code).run P w = .ok l w := fun code v e => (run_bound_of (P := P) el hlo code h (Nat.le_refl _) w).1 v e
  have low0 : lo' = none → l = 0 := (run_bound_of (P := P) el hlo .sliceB h (Nat.le_refl _) w).2
  rcases e with ⟨rfl, eh, rfl⟩ | ⟨x, y, rfl, rfl, em, eh⟩
  · have hn := hmx.2 rfl
    subst hn
    have hh : ∀ code v, hi' = some v → (Instr.sliceBound v m code).run P w = .ok h w := fun code v e => (run_bound_of (P := P) eh hhi code m hk w).1 v e
    have hh0 : hi' = none → h = len := (run_bound_of (P := P) eh hhi .sliceB known (Nat.le_refl _) w).2
    cases hi' with
    | none =>
      have := hh0 rfl
      subst this
      cases lo' with
      | none => have := low0 rfl; subst this; simp [Instr.sliceBounds]
      | some u => simp [Instr.sliceBounds, low _ u rfl]
    | some v =>
      cases lo' with
      | none => have := low0 rfl; subst this; simp [Instr.sliceBounds, hh _ v rfl]
      | some u => simp [Instr.sliceBounds, low _ u rfl, hh _ v rfl]
  · obtain ⟨x', rfl, _⟩ := hmx.1 x rfl
    obtain ⟨y', rfl, _⟩ := hhi.1 y rfl
    have h1 : ∀ code, (Instr.sliceBound x' cap code).run P w = .ok m w := fun code => (run_bound_of (P := P) em hmx code cap hk w).1 x' rfl
    have h2 : ∀ code, (Instr.sliceBound y' m code).run P w = .ok h w := fun code => (run_bound_of (P := P) eh hhi code m (Nat.le_refl _) w).1 y' rfl
    cases lo' with
    | none => have := low0 rfl; subst this; simp [Instr.sliceBounds, h1, h2]
    | some u => simp [Instr.sliceBounds, h1, h2, low _ u rfl]

end
end Go.Abs
