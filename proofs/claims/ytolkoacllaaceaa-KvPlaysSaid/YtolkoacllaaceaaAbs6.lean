/-
  THE ABSTRACT EVALUATOR AND THE MODEL: all operations that look at no memory.
-/
import Derived.Test.YtolkoacllaaceaaAbs5
namespace Go.Abs
open Go

section
variable {P : Program} {μ : Mu}

/-- The parts of something that is built. -/
theorem parts_rel {ρ ρ' : Operand → Value} {parts : Array (Nat × Operand)} (h : ∀ x ∈ (parts.toList.map (·.2)), VR μ (ρ x) (ρ' x)) :
    All2 (fun x y : Nat × Value => x.1 = y.1 ∧ VR μ x.2 y.2) (parts.toList.map fun (i, x) => (i, ρ x)) (parts.map fun (i, x) => (i, ρ' x)).toList := by
  rw [Array.toList_map]
  refine ⟨by simp, fun i a ha => ?_⟩
  rw [List.getElem?_map] at ha ⊢
  cases e : parts.toList[i]? with
  | none => rw [e] at ha; cases ha
  | some q =>
    obtain ⟨j, x⟩ := q
    rw [e] at ha; simp at ha; subst ha
    exact ⟨(j, ρ' x), rfl, rfl, h x (List.mem_map.2 ⟨(j, x), List.mem_of_getElem? e, rfl⟩)⟩

/-- A value put into a part has cells of one cell each, if it is no tuple. -/
theorem VR.partOk {v v' : Value} (h : VR μ v v') (ht : ∀ vs, v ≠ .tuple vs) : v.cells.toList.all Value.oneCell' = true := by
  cases h with
  | a e =>
    have := e.cells
    rw [List.all_eq_true]
    intro x hx
    obtain ⟨i, hi⟩ := List.mem_iff_getElem?.1 hx
    obtain ⟨y, _, r⟩ := this.2 i x hi
    exact r.oneCell.1
  | tup e => exact absurd rfl (ht _)
  | dead => exact absurd rfl (ht _)

theorem noTuple_spec {v : Value} (h : noTuple v = true) : ∀ vs, v ≠ .tuple vs := by
  intro vs e; subst e; simp [noTuple] at h

theorem all2_arr {l : List Value} {a : Array Value} (h : All2 (VR1 μ) l a.toList) : All2 (VR1 μ) l.toArray.toList a.toList := by simpa using h

theorem buildA_run {t : TypeId} {parts : List (Nat × Value)} {parts' : Array (Nat × Value)} {v : Value} (h : buildA P t parts = some v)
    (hp : All2 (fun x y : Nat × Value => x.1 = y.1 ∧ VR μ x.2 y.2) parts parts'.toList) (hone : ∀ x ∈ parts, x.2.cells.toList.all Value.oneCell' = true) (w : World) :
    ∃ v', (Instr.build t parts').run P w = .ok v' w ∧ VR μ v v' := by
  unfold buildA at h
  split at h
  · rename_i z fs hz hu
    obtain ⟨hzr, hzp⟩ := zeroA_run hz w
    cases hpl : placesA P fs.toList with
    | none => simp [hpl] at h
    | some pl =>
      simp only [hpl] at h
      cases hf : fillA (pl[·]?) z.cells.toList parts with
      | none => simp [hf] at h
      | some cs =>
        simp only [hf, Option.map_some, Option.some.injEq] at h; subst h
        obtain ⟨cs', hc1, hc2⟩ := fill_run (fun i => pl[i]?) parts parts'.toList z.cells.toList z.cells cs hf (zero_cells hzp) hp hone
        refine ⟨.agg cs', ?_, .agg (all2_arr hc2)⟩
        have hpr := places_run (P := P) fs.toList pl hpl w
        have hpr' : (fs.mapM (m := Sem) fun f => do pure (f.offset, ← sizeOf f.type)).run P w = .ok pl.toArray w := by
          rw [← Array.toArray_toList (xs := fs), List.mapM_toArray]
          simp only [Sem.run_map, hpr, Result.andThen_ok]
        simp only [Instr.build, Sem.run_bind, hzr, run_underlying hu, Result.andThen_ok, hpr']
        have hc1' : Instr.fill (fun x => pl.toArray[x]?) z.cells parts'.toList = some cs' := by
          simpa using hc1
        rw [hc1']
        rfl
  · rename_i z n elem hz hu
    obtain ⟨hzr, hzp⟩ := zeroA_run hz w
    cases hsz : szA P elem with
    | none => simp [hsz] at h
    | some k =>
      simp only [hsz] at h
      cases hf : fillA (fun i => some (i * k, k)) z.cells.toList parts with
      | none => simp [hf] at h
      | some cs =>
        simp only [hf, Option.map_some, Option.some.injEq] at h; subst h
        obtain ⟨cs', hc1, hc2⟩ := fill_run (fun i => some (i * k, k)) parts parts'.toList z.cells.toList z.cells cs hf (zero_cells hzp) hp hone
        refine ⟨.agg cs', ?_, .agg (all2_arr hc2)⟩
        simp only [Instr.build, Sem.run_bind, hzr, run_underlying hu, Result.andThen_ok, szA_run hsz, hc1]
        rfl
  · cases h

theorem all2_plain_eq : ∀ {l m : List Value}, All2 (VR μ) l m → l.all plainV = true → m = l
  | [], m, h, _ => h.inv_nil
  | a :: l, m, h, hp => by
    obtain ⟨b, m', rfl, r, hl⟩ := h.inv_cons
    simp only [List.all_cons, Bool.and_eq_true] at hp
    rw [r.eq_of_plain hp.1, all2_plain_eq hl hp.2]

theorem builtinT_run {b : Builtin} {argTypes : Array TypeId} {ty : TypeId} {args : List Value} {args' : Array Value} {v : Value} {consts : Array Bool}
    (h : builtinT P b argTypes ty args = some v) (hr : All2 (VR μ) args args'.toList) (w : World) :
    ∃ v', (builtin b argTypes ty consts args').run P w = .ok (.value v') w ∧ VR μ v v' := by
  unfold builtinT at h
  cases b <;> first | (simp at h; done) | skip
  case len =>
    simp only at h
    split at h
    · rename_i t ht
      split at h
      · rename_i s hu
        obtain ⟨x, m, hm, hx, hn⟩ := hr.inv_cons
        have := hn.inv_nil; subst this
        have := hx.inv_string; subst this
        simp at h; subst h
        refine ⟨_, ?_, .plain1 rfl⟩
        have h0 : args'[0]? = some (.string s) := by rw [← Array.getElem?_toList, hm]; rfl
        simp [builtin, Builtin.len_, ht, h0, run_underlying hu]
      · rename_i n e x hu
        obtain ⟨y, m, hm, hx, hn⟩ := hr.inv_cons
        have := hn.inv_nil; subst this
        simp at h; subst h
        refine ⟨_, ?_, .plain1 rfl⟩
        have h0 : args'[0]? = some y := by rw [← Array.getElem?_toList, hm]; rfl
        simp [builtin, Builtin.len_, ht, h0, run_underlying hu]
      · rename_i e a n k hu
        obtain ⟨y, m, hm, hx, hn⟩ := hr.inv_cons
        have := hn.inv_nil; subst this
        simp at h; subst h
        refine ⟨goInt n, ?_, .plain1 rfl⟩
        have h0 : args'[0]? = some y := by rw [← Array.getElem?_toList, hm]; rfl
        have hy : ∃ a' k', y = .slice a' n k' := by
          cases a with
          | none => obtain ⟨rfl, rfl, rfl⟩ := hx.inv_slice_nil; exact ⟨_, _, rfl⟩
          | some a =>
            obtain ⟨b, o, sp⟩ := a
            cases sp with
            | none =>
              rcases hx.inv_slice with ⟨p, k', _, rfl, _⟩ | ⟨rfl, _, a', _, rfl⟩
              · exact ⟨_, _, rfl⟩
              · exact ⟨_, _, rfl⟩
            | some i => exact (hx.inv_slice_spot).elim
        obtain ⟨a', k', rfl⟩ := hy
        simp [builtin, Builtin.len_, ht, h0, run_underlying hu]
      · cases h
    · cases h
  case cap =>
    simp only at h
    split at h
    · rename_i t ht
      split at h
      · rename_i n e x hu
        obtain ⟨y, m, hm, hx, hn⟩ := hr.inv_cons
        have := hn.inv_nil; subst this
        simp at h; subst h
        refine ⟨_, ?_, .plain1 rfl⟩
        have h0 : args'[0]? = some y := by rw [← Array.getElem?_toList, hm]; rfl
        simp [builtin, Builtin.cap_, ht, h0, run_underlying hu]
      · rename_i e a n k hu
        obtain ⟨y, m, hm, hx, hn⟩ := hr.inv_cons
        have := hn.inv_nil; subst this
        split at h
        · cases h
        · rename_i hk
          have hk' := isUnk_false.1 (by simpa using hk)
          simp at h; subst h
          refine ⟨goInt k, ?_, .plain1 rfl⟩
          have h0 : args'[0]? = some y := by rw [← Array.getElem?_toList, hm]; rfl
          have hy : ∃ a' n', y = .slice a' n' k := by
            cases a with
            | none => obtain ⟨rfl, rfl, rfl⟩ := hx.inv_slice_nil; exact ⟨_, _, rfl⟩
            | some a =>
              obtain ⟨b, o, sp⟩ := a
              cases sp with
              | none =>
                rcases hx.inv_slice with ⟨p, k', _, rfl, _, h1 | h1⟩ | ⟨rfl, h1, a', _, rfl⟩
                · omega
                · rw [h1.1]; exact ⟨_, _, rfl⟩
                · have : k = 0 := by omega
                  subst this; exact ⟨_, _, rfl⟩
              | some i => exact (hx.inv_slice_spot).elim
          obtain ⟨a', n', rfl⟩ := hy
          simp [builtin, Builtin.cap_, ht, h0, run_underlying hu]
      · cases h
    · cases h
  all_goals
    simp only at h
    split at h
    · rename_i hp
      have := all2_plain_eq hr hp
      have ha : args.toArray = args' := by rw [← this]
      rw [ha] at h
      obtain ⟨hrun, hv⟩ := evalPlain (μ := μ) h w
      exact ⟨v, by simp [builtin, hrun], hv⟩
    · cases h

theorem notTuple_of_build {parts : Array (Nat × Operand)} {ρ : Operand → Value} (h : parts.toList.all (fun x => noTuple (ρ x.2)) = true) :
    ∀ x ∈ parts.toList.map (fun (i, x) => (i, ρ x)), noTuple x.2 = true := by
  intro x hx
  obtain ⟨⟨i, y⟩, hm, rfl⟩ := List.mem_map.1 hx
  exact List.all_eq_true.1 h (i, y) hm

theorem parts_one {ρ ρ' : Operand → Value} {parts : Array (Nat × Operand)} (hr : ∀ x ∈ (parts.toList.map (·.2)), VR μ (ρ x) (ρ' x))
    (hn : parts.toList.all (fun x => noTuple (ρ x.2)) = true) : ∀ x ∈ parts.toList.map (fun (i, x) => (i, ρ x)), x.2.cells.toList.all Value.oneCell' = true := by
  intro x hx
  have h1 := notTuple_of_build hn x hx
  obtain ⟨⟨i, y⟩, hm, rfl⟩ := List.mem_map.1 hx
  exact (hr y (List.mem_map.2 ⟨(i, y), hm, rfl⟩)).partOk (noTuple_spec h1)

theorem arr_basic {ρ ρ' : Operand → Value} {xs : Array Operand} (h : ∀ x ∈ xs.toList, VR μ (ρ x) (ρ' x)) (hb : (xs.toList.all fun x => isBasic (ρ x)) = true) :
    All2 (VR0 μ) (xs.map ρ).toList (xs.map ρ').toList := by
  rw [Array.toList_map, Array.toList_map]
  refine ⟨by simp, fun i a ha => ?_⟩
  rw [List.getElem?_map] at ha ⊢
  cases e : xs.toList[i]? with
  | none => rw [e] at ha; cases ha
  | some x =>
    rw [e] at ha; simp at ha; subst ha
    have hm := List.mem_of_getElem? e
    exact ⟨ρ' x, rfl, (h x hm).zero_of_basic (List.all_eq_true.1 hb x hm)⟩

theorem list_rel {ρ ρ' : Operand → Value} {xs : List Operand} (h : ∀ x ∈ xs, VR μ (ρ x) (ρ' x)) : All2 (VR μ) (xs.map ρ) (xs.map ρ') := by
  refine ⟨by simp, fun i a ha => ?_⟩
  rw [List.getElem?_map] at ha ⊢
  cases e : xs[i]? with
  | none => rw [e] at ha; cases ha
  | some x => rw [e] at ha; simp at ha; subst ha; exact ⟨ρ' x, rfl, h x (List.mem_of_getElem? e)⟩

/-- EACH OPERATION THAT LOOKS AT NO MEMORY. -/
theorem simT {o : Oper} {ρ ρ' : Operand → Value} {v : Value} (h : stepT P ρ o = some v) (hr : OpR μ ρ ρ' o.op.operands.toList) (w : World) :
    ∃ v', (execOp ρ' o).run P w = .ok (.value v') w ∧ VR μ v v' := by
  obtain ⟨dst, op, ty, pos, after, guard⟩ := o
  unfold OpR at hr
  cases op <;> first | (simp [stepT] at h; done) | skip
  all_goals simp only [stepT] at h
  all_goals simp only [Op.operands] at hr
  all_goals simp only [execOp]
  case move x => simp at h; subst h; exact ⟨_, rfl, hr x (by simp)⟩
  case assign x => simp at h; subst h; exact ⟨_, rfl, hr x (by simp)⟩
  case pick c a b =>
    have hc := hr c (by simp)
    split at h
    · rename_i t e
      rw [e] at hc
      have := hc.inv_bool
      simp at h; subst h
      refine ⟨if t then ρ' a else ρ' b, ?_, ?_⟩
      · simp [this, asBool]
      · cases t
        · exact hr b (by simp)
        · exact hr a (by simp)
    · cases h
  case build t parts =>
    split at h
    · rename_i hn
      obtain ⟨v', h1, h2⟩ := buildA_run (parts' := parts.map fun (i, x) => (i, ρ' x)) h (parts_rel (fun x hx => hr x (by simpa using hx))) (parts_one (fun x hx => hr x (by simpa using hx)) hn) w
      exact ⟨v', by simp [h1], h2⟩
    · cases h
  case nilCheck x =>
    have hx := hr x (by simp)
    split at h
    · rename_i a e
      rw [e] at hx
      simp at h; subst h
      obtain ⟨b, o, sp⟩ := a
      cases sp with
      | some i => exact (hx.inv_ptr_spot).elim
      | none =>
        have hx' := hx
        obtain ⟨p, _, e'⟩ := hx.inv_ptr
        rw [e'] at hx' ⊢
        exact ⟨_, rfl, hx'⟩
    · rename_i f fs cs e
      rw [e] at hx
      simp at h; subst h
      have hx' := hx
      obtain ⟨a', b', e', _, _⟩ := hx.inv_func rfl
      rw [e'] at hx' ⊢
      exact ⟨_, rfl, hx'⟩
    · cases h
  case binOp op t x y _ =>
    obtain ⟨v', h1, h2⟩ := binA_run h (hr x (by simp)) (hr y (by simp)) w
    refine ⟨v', ?_, h2⟩
    simp only [Sem.run_bind] at h1 ⊢
    rw [h1]; rfl
  case unOp op t x =>
    split at h
    · rename_i hp
      have := (hr x (by simp)).eq_of_plain hp
      obtain ⟨h1, h2⟩ := evalPlain (μ := μ) h w
      exact ⟨v, by simp [this, h1], h2⟩
    · cases h
  case convert src dst x =>
    split at h
    · rename_i hp
      have := (hr x (by simp)).eq_of_plain hp
      obtain ⟨h1, h2⟩ := evalPlain (μ := μ) h w
      exact ⟨v, by simp [this, h1], h2⟩
    · cases h
  case fieldAddr s x f =>
    obtain ⟨v', h1, h2⟩ := fieldAddrA_run h (hr x (by simp)) w
    exact ⟨v', by simp [h1], h2⟩
  case field t x f =>
    obtain ⟨v', h1, h2⟩ := fieldA_run h (hr x (by simp)) w
    exact ⟨v', by simp [h1], h2⟩
  case indexAddr t x i =>
    obtain ⟨v', h1, h2⟩ := indexAddrA_run h (hr x (by simp)) (hr i (by simp)) w
    exact ⟨v', by simp [h1], h2⟩
  case index t x i =>
    obtain ⟨v', h1, h2⟩ := indexA_run h (hr x (by simp)) (hr i (by simp)) w
    exact ⟨v', by simp [h1], h2⟩
  case slice t x lo hi mx =>
    obtain ⟨v', h1, h2⟩ := sliceA_run h (hr x (by simp)) (optR_map fun y e => hr y (by subst e; simp)) (optR_map fun y e => hr y (by subst e; simp)) (optR_map fun y e => hr y (by subst e; simp)) w
    exact ⟨v', by simp [h1], h2⟩
  case makeFunc fn first cap =>
    split at h
    · rename_i hb
      simp only [Bool.and_eq_true, Bool.not_eq_true'] at hb
      obtain ⟨⟨hy, hb1⟩, hb2⟩ := hb
      have hb := And.intro hb1 hb2
      simp at h; subst h
      exact ⟨_, rfl, .one (.func hy (arr_basic (fun x hx => hr x (by simp at hx ⊢; exact .inl hx)) hb.1) (arr_basic (fun x hx => hr x (by simp at hx ⊢; exact .inr hx)) hb.2))⟩
    · cases h
  case extract x i =>
    have hx := hr x (by simp)
    split at h
    · rename_i vs e
      rw [e] at hx
      split at h
      · rename_i x0 hx0
        split at h
        · rename_i hnt
          simp only [Option.some.injEq] at h; subst h
          rcases hx.inv_tuple with ⟨ys, e', hys⟩ | hd
          · rw [← Array.getElem?_toList] at hx0
            obtain ⟨u, hu, r⟩ := hys.2 i _ hx0
            rw [Array.getElem?_toList] at hu
            rw [e']
            exact ⟨u, by simp [Instr.extract, hu], .a r⟩
          · subst hd
            cases i with
            | zero => simp at hx0; subst hx0; simp [noTuple] at hnt
            | succ i => simp at hx0
        · cases h
      · cases h
    · cases h
  case makeInterface t x =>
    have hx := hr x (by simp)
    split at h
    · cases h
    · rename_i d hd hu
      split at h
      · rename_i hb
        simp at h; subst h
        refine ⟨.iface t (ρ' x), ?_, .one (.iface (hx.zero_of_basic hb))⟩
        cases d <;> first | (simp [Instr.makeInterface, run_underlying hu]; done) | exact absurd rfl (hd _)
      · cases h
    · cases h
  case typeAssert x xt asserted ok =>
    have hx := hr x (by simp)
    split at h
    · cases h
    · rename_i d t u hd hu e
      split at h
      · rename_i ht
        rw [e] at hx
        obtain ⟨y, e', hy⟩ := hx.inv_iface
        simp at h; subst h
        rw [e']
        refine ⟨if ok then .tuple #[y, .bool true] else y, ?_, ?_⟩
        · cases d <;> first | (simp [Instr.typeAssert, run_underlying hu, ht]; done) | exact absurd rfl (hd _)
        · cases ok
          · exact .zero hy
          · exact .tup (by simpa using All2.cons (VRa.one (.zero hy)) (All2.cons (VRa.one (.refl_plain rfl)) All2.nil))
      · cases h
    · cases h
  case call c =>
    obtain ⟨cal, args, argTypes⟩ := c
    cases cal with
    | builtin b =>
      simp only at h
      have hl : All2 (VR μ) (args.toList.map ρ) (args.map ρ').toList := by
        rw [Array.toList_map]
        exact list_rel fun x hx => hr x (by simpa [Call.operands] using hx)
      obtain ⟨v', h1, h2⟩ := builtinT_run (consts := args.map fun | .const _ => true | _ => false) h hl w
      refine ⟨v', ?_, h2⟩
      simp only [resolve, invoke, Sem.run_bind, Sem.run_pure, Result.andThen_ok]
      exact h1
    | value f => simp at h
    | invoke r n => simp at h
end
end Go.Abs
