/-
  IMMUTABLE SLICES: their lengths, elements, parts; texts of bytes; append.
-/
import Derived.Test.YtolkoacllaaceaaAbsF
namespace Go.Abs
open Go

noncomputable section
/-- A type's zero, slices as immutable data. -/
def zeroL (f : TypeId → Option Value) : List TypeId → Option (List Value)
  | [] => some []
  | t :: r => match f t, zeroL f r with
    | some z, some l => some (z.cells.toList ++ l)
    | _, _ => none
def zeroD (P : Program) : Nat → TypeId → Option Value
  | 0, _ => none
  | n + 1, t => match P.underlying t with
    | some (.int k) => some (.int k 0)
    | some .string => some (.string ⟨#[]⟩)
    | some .bool => some (.bool false)
    | some (.slice e) => (zeroD P n e).bind fun z => if z.cells.size = 0 then none else some (dsl z [])
    | some (.struct fs) => (zeroL (zeroD P n) (fs.toList.map (·.type))).map fun l => .agg l.toArray
    | some (.array k e) => (zeroD P n e).map fun z => .agg (List.replicate k z.cells.toList).flatten.toArray
    | _ => none
variable (S : Sy)
/-- A cell of an element that is not known. -/
def view1 (z x : Value) : Value :=
  match z with
  | .int k _ => mk (.int k (S.dint x))
  | .string _ => mk (.string (S.dstr x))
  | .bool _ => mkb (S.dbool x)
  | .func (.yield 1) f _ => .func (.yield 1) f (S.dels x).toArray
  | z => if plain1 z then z else .bool false
def viewC (z x : Value) : List Value :=
  match z with
  | .agg zs => zs.toList.zipIdx.map fun p => view1 S p.1 (S.fld x p.2)
  | z => [view1 S z x]
/-- A value that is an immutable slice: its element's zero, its elements. -/
def asDeep (v : Value) : Option (Value × List Value) :=
  match v with
  | .func (.yield 1) f xs => match f.toList with
    | [z] => some (z, xs.toList)
    | _ => none
  | .func (.yield 5) f xs => match f.toList with
    | [z, .slice none _ _] => some (z, xs.toList)
    | _ => none
  | _ => none
/-- A place in an immutable slice. -/
def asFptr (v : Value) : Option (List Value × Nat) :=
  match v with
  | .func (.yield 2) cs l => match l.toList with
    | [.slice none j 0] => some (cs.toList, j)
    | _ => none
  | _ => none
/-- A literal. -/
def isLit (v : Value) : Bool :=
  match v with
  | .func (.yield 5) f _ => match f.toList with
    | [_, .slice none _ 1] => true
    | _ => false
  | _ => false
def symDT (P : Program) (ρ : Operand → Value) (o : Oper) (h : Hp) : Option (List Alt) :=
  match o.op with
  | .call { callee := .builtin .len, args, argTypes } => match argTypes[0]? with
    | some t => match P.underlying t, args.toList.map ρ with
      | some (.slice _), [v] => match asDeep v with
        | some (_, xs) => pure1 h (if isLit v then .int .i64 (xs.length : Int) else mk (.int .i64 (S.int (S.len xs))))
        | none => none
      | _, _ => none
    | none => none
  | .indexAddr t x i => match P.underlying t, asDeep (ρ x), den (ρ i) with
    | some (.slice e), some (z, xs), .int _ n =>
      if szA P e = some z.cells.size then one h (S.ile 0 n ∧ S.ilt n (S.int (S.len xs))) (fptr (viewC S z (S.get z xs (S.nat n))) 0) else none
    | _, _, _ => none
  | .fieldAddr s x f => match P.underlying s, asFptr (ρ x) with
    | some (.struct fs), some (cs, j) => match fs[f]? with
      | some fd => match szA P fd.type with
        | some (_ + 1) => pure1 h (fptr cs (j + fd.offset))
        | _ => none
      | none => none
    | _, _ => none
  | .nilCheck x => match asFptr (ρ x) with
    | some _ => pure1 h (ρ x)
    | none => none
  | .slice t x lo hi none => match P.underlying t, asDeep (ρ x) with
    | some (.slice e), some (z, xs) => match szA P e, symBound S (hi.map ρ) (S.len xs) (S.len xs) with
      | some sz, some (o1, y) => if sz = z.cells.size then match symBound S (lo.map ρ) 0 y with
        | some (o2, l) => one h (o1 ∧ o2) (dsl z (S.take (S.nsub y l) (S.drop l xs)))
        | none => none
        else none
      | _, _ => none
    | _, _ => none
  | .binOp op t x y _ => match P.underlying t, asDeep (ρ x), ρ y with
    | some (.slice _), some (_, xs), .slice none _ _ => match op with
      | .eql => one h (S.nlt 0 (S.len xs)) (.bool false)
      | .neq => one h (S.nlt 0 (S.len xs)) (.bool true)
      | _ => none
    | _, _, _ => none
  | _ => none
def symDR (P : Program) (ρ : Operand → Value) (o : Oper) (h : Hp) : Option (List Alt) :=
  match o.op with
  | .load t a => match asFptr (ρ a), P.underlying t, szA P t with
    | some (cs, j), some d, some n =>
      if isAggD d then (if j + n ≤ cs.length then pure1 h (.agg ((cs.drop j).take n).toArray) else none)
      else match cs[j]? with
        | some v => pure1 h v
        | none => none
    | _, _, _ => none
  | .convert src dst x => match P.underlying src, P.underlying dst with
    | some (.slice e), some .string => match P.underlying e, asDeep (ρ x) with
      | some (.int .u8), some (.int .u8 _, xs) => pure1 h (mk (.string (S.sof (S.ints xs))))
      | _, _ => none
    | _, _ => none
  | _ => none
end

section
variable {P : Program} {μ : Mu} {base : Nat} {w : World}

theorem cellsN_len (z x : Value) : (cellsN z x).length = z.cells.size := by
  unfold cellsN
  split
  · simp [Value.cells]
  · rename_i h
    cases z <;> first | rfl | exact absurd rfl (h _)
theorem flatN_cons (z x : Value) (xs : List Value) : flatN z (x :: xs) = cellsN z x ++ flatN z xs := rfl
theorem flatN_append (z : Value) (xs ys : List Value) : flatN z (xs ++ ys) = flatN z xs ++ flatN z ys := List.flatMap_append
theorem flatN_len (z : Value) : ∀ xs : List Value, (flatN z xs).length = xs.length * z.cells.size
  | [] => by simp [flatN]
  | x :: xs => by rw [flatN_cons, List.length_append, cellsN_len, flatN_len z xs, List.length_cons, Nat.succ_mul]; omega
theorem flatN_drop (z : Value) : ∀ (l : Nat) (xs : List Value), flatN z (xs.drop l) = (flatN z xs).drop (l * z.cells.size)
  | 0, xs => by simp
  | l + 1, [] => by simp [flatN]
  | l + 1, x :: xs => by
    rw [List.drop_succ_cons, flatN_drop z l xs, flatN_cons, Nat.succ_mul, Nat.add_comm, ← List.drop_drop, ← cellsN_len z x, List.drop_left]
theorem flatN_take (z : Value) : ∀ (l : Nat) (xs : List Value), flatN z (xs.take l) = (flatN z xs).take (l * z.cells.size)
  | 0, xs => by simp [flatN]
  | l + 1, [] => by simp [flatN]
  | l + 1, x :: xs => by
    rw [List.take_succ_cons, flatN_cons, flatN_take z l xs, flatN_cons, Nat.succ_mul, Nat.add_comm, ← cellsN_len z x, List.take_length_add_append]
theorem flatN_get {z : Value} {xs : List Value} {i j : Nat} (hi : i < xs.length) (hj : j < z.cells.size) : (flatN z xs)[i * z.cells.size + j]? = (cellsN z (xs.getD i z))[j]? := by
  have h1 : (flatN z xs)[i * z.cells.size + j]? = (flatN z (xs.drop i))[j]? := by rw [flatN_drop, List.getElem?_drop]
  rw [h1, List.drop_eq_getElem_cons hi, flatN_cons, List.getElem?_append_left (by rw [cellsN_len]; exact hj), List.getD_eq_getElem?_getD, List.getElem?_eq_getElem hi]
  rfl

theorem deep_inv {v v' z : Value} {xs : List Value} (hd : asDeep v = some (z, xs)) (h : VR μ v v') : DR μ.z (dsl z xs) v' := by
  unfold asDeep at hd
  split at hd
  · rename_i f ys
    split at hd
    · rename_i z0 hf
      simp only [Option.some.injEq, Prod.mk.injEq] at hd
      obtain ⟨rfl, rfl⟩ := hd
      have hf : f = #[z0] := by rw [← Array.toList_inj, hf]
      subst hf
      have h0 := h.zero_of_basic rfl
      generalize hg : Value.func (Fn.yield 1) #[z0] ys = d at h0
      cases h0 with
      | deep hd => simp [dsl] at hg; obtain ⟨rfl, h3⟩ := hg; subst h3; simpa using hd
      | plain hp => subst hg; simp [plain1] at hp
      | mark _ _ => simp [mk] at hg
      | osl _ _ _ => simp [Abs.osq] at hg
      | fptr _ _ _ => simp [Abs.fptr] at hg
      | rptr _ => simp [Abs.rptr] at hg
      | mbool => simp [mkb] at hg
      | _ => cases hg
    · cases hd
  · rename_i f ys
    split at hd
    · rename_i z0 b q hf
      simp only [Option.some.injEq, Prod.mk.injEq] at hd
      obtain ⟨rfl, rfl⟩ := hd
      have hf : f = #[z0, .slice none b q] := by rw [← Array.toList_inj, hf]
      subst hf
      have h0 := h.zero_of_basic rfl
      generalize hg : Value.func (Fn.yield 5) #[z0, .slice none b q] ys = d at h0
      cases h0 with
      | osl hd h1 h2 => simp [Abs.osq] at hg; obtain ⟨⟨rfl, rfl, rfl⟩, h3⟩ := hg; subst h3; simpa using hd
      | plain hp => subst hg; simp [plain1] at hp
      | mark _ _ => simp [mk] at hg
      | deep _ => simp [dsl] at hg
      | fptr _ _ _ => simp [Abs.fptr] at hg
      | rptr _ => simp [Abs.rptr] at hg
      | mbool => simp [mkb] at hg
      | _ => cases hg
    · cases hd
  · cases hd
theorem fptr_inv {v v' : Value} {cs : List Value} {j : Nat} (hd : asFptr v = some (cs, j)) (h : VR μ v v') :
    ∃ (c o : Nat) (val : Nat → Value), v' = .pointer (some ⟨c, o + j, none⟩) ∧ (∀ i u, cs[i]? = some u → μ.z c (o + i) = some (val i)) ∧ (∀ i u, cs[i]? = some u → VR0 μ u (val i)) := by
  unfold asFptr at hd
  split at hd
  · rename_i f l
    split at hd
    · rename_i j' hf
      simp only [Option.some.injEq, Prod.mk.injEq] at hd
      obtain ⟨rfl, rfl⟩ := hd
      have hf : l = #[.slice none j' 0] := by rw [← Array.toList_inj, hf]
      subst hf
      have h0 := h.zero_of_basic rfl
      generalize hg : Value.func (Fn.yield 2) f #[.slice none j' 0] = d at h0
      cases h0 with
      | fptr val h1 h2 => simp [Abs.fptr] at hg; obtain ⟨h3, rfl⟩ := hg; subst h3; exact ⟨_, _, val, rfl, by simpa using h1, by simpa using h2⟩
      | plain hp => subst hg; simp [plain1] at hp
      | mark _ _ => simp [mk] at hg
      | deep _ => simp [dsl] at hg
      | osl _ _ _ => simp [Abs.osq] at hg
      | rptr _ => simp [Abs.rptr] at hg
      | mbool => simp [mkb] at hg
      | _ => cases hg
    · cases hd
  · cases hd

theorem view1_ok {z x v' : Value} (h : DR μ.z (norm1 z x) v') : VR0 μ (view1 std z x) v' := by
  have plain : ∀ {u : Value}, plain1 u = true → DR μ.z u v' → v' = u := by
    intro u hp hd
    cases hd with
    | plain _ => rfl
    | nil => simp [not_plain_dsl] at hp
    | sl _ _ _ _ _ => simp [not_plain_dsl] at hp
  unfold norm1 at h
  unfold view1
  split at h
  · rw [plain rfl h]; exact .mark (.plain rfl) rfl
  · rw [plain rfl h]; exact .mark (.plain rfl) rfl
  · rw [plain rfl h]; exact .mbool
  · rename_i f ys
    show VR0 μ (.func (.yield 1) f (dels x).toArray) v'
    generalize Value.func (Fn.yield 1) f (dels x).toArray = d at h
    cases h with
    | plain hp => exact .plain hp
    | nil => exact .deep .nil
    | sl val h1 h2 h3 h4 => exact .deep (.sl val h1 h2 h3 h4)
  · rename_i h1 h2 h3 h4
    split
    · exact absurd rfl (h1 _ _)
    · exact absurd rfl (h2 _)
    · exact absurd rfl (h3 _)
    · exact absurd rfl (h4 _ _)
    · split at h
      · rename_i hp; rw [if_pos hp, plain hp h]; exact .plain hp
      · rename_i hp; rw [if_neg hp, plain rfl h]; exact .plain rfl
theorem viewC_len (z x : Value) : (viewC std z x).length = z.cells.size := by
  unfold viewC
  split
  · simp [Value.cells]
  · rename_i h
    cases z <;> first | rfl | exact absurd rfl (h _)
theorem viewC_ok {z x u v' : Value} {j : Nat} (hu : (viewC std z x)[j]? = some u) (h : ∀ y, (cellsN z x)[j]? = some y → DR μ.z y v') : VR0 μ u v' := by
  unfold viewC at hu
  unfold cellsN at h
  split at hu
  · rename_i zs
    rw [List.getElem?_map, List.getElem?_zipIdx] at hu
    simp only [List.getElem?_map, List.getElem?_zipIdx] at h
    cases hz : zs.toList[j]? with
    | none => rw [hz] at hu; cases hu
    | some z' =>
      rw [hz] at hu h
      simp only [Option.map_some, Option.some.injEq, Nat.zero_add] at hu h
      subst hu
      exact view1_ok (h _ rfl)
  · rename_i hna
    cases j with
    | succ j => simp at hu
    | zero =>
      simp only [List.getElem?_cons_zero, Option.some.injEq] at hu
      subst hu
      split at h
      · exact absurd rfl (hna _)
      · exact view1_ok (h _ rfl)

theorem frozen_cell {g : Gm} (hr : Rel μ base g w) {c i : Nat} {a : Value} (h : μ.z c i = some a) : w.cell? ⟨c, i, none⟩ = some a := by
  obtain ⟨⟨arr, e, fr, h1, h2⟩, _⟩ := hr.frz c i a h
  rw [cell_of_row w c _ arr e fr h1, h2]

theorem dr_index {z v' : Value} {xs : List Value} (h : DR μ.z (dsl z xs) v') {i : Nat} (hi : i < xs.length) :
    ∃ (c o k : Nat), v' = .slice (some ⟨c, o, none⟩) xs.length k ∧ xs.length ≤ k ∧ ∀ j, VR0 μ (fptr (viewC std z (xs.getD i z)) j) (.pointer (some ⟨c, o + i * z.cells.size + j, none⟩)) := by
  rcases h.inv with ⟨rfl, _⟩ | ⟨c, o, k, val, rfl, hk, h1, h2⟩
  · simp at hi
  · refine ⟨c, o, k, rfl, hk, fun j => .fptr (fun j => val (i * z.cells.size + j)) (fun j u hu => ?_) (fun j u hu => ?_)⟩
    · have hj : j < z.cells.size := by
        have := (List.getElem?_eq_some_iff.1 hu).1
        rwa [viewC_len] at this
      have hf := flatN_get (xs := xs) hi hj
      have hl : j < (cellsN z (xs.getD i z)).length := by rw [cellsN_len]; exact hj
      rw [List.getElem?_eq_getElem hl] at hf
      have := h1 _ _ hf
      rw [← this]; congr 1; omega
    · have hj : j < z.cells.size := by
        have := (List.getElem?_eq_some_iff.1 hu).1
        rwa [viewC_len] at this
      refine viewC_ok hu fun y hy => h2 _ y ?_
      rw [flatN_get hi hj]; exact hy

theorem dr_slice {z v' : Value} {xs : List Value} {l y : Nat} (hl : l ≤ y) (hy : y ≤ xs.length) (h : DR μ.z (dsl z xs) v') :
    ∃ a k, v' = .slice a xs.length k ∧ xs.length ≤ k ∧ DR μ.z (dsl z ((xs.drop l).take (y - l))) (.slice (if k = l then a else a.map (·.add (l * z.cells.size))) (y - l) (k - l)) := by
  rcases h.inv with ⟨rfl, a, k, rfl⟩ | ⟨c, o, k, val, rfl, hk, h1, h2⟩
  · have : y = 0 := by simpa using hy
    subst this
    have : l = 0 := by omega
    subst this
    exact ⟨a, k, rfl, Nat.zero_le _, by simpa using DR.nil⟩
  · refine ⟨_, k, rfl, hk, ?_⟩
    by_cases e : y - l = 0
    · rw [e, List.take_zero]; exact .nil
    · rw [if_neg (by omega)]
      have ha : Option.map (fun x : Addr => x.add (l * z.cells.size)) (some ⟨c, o, none⟩) = some ⟨c, o + l * z.cells.size, none⟩ := by
        simp only [Option.map_some, Option.some.injEq]
        unfold Addr.add; split
        · simp_all
        · rfl
      rw [ha]
      have at' : ∀ i v, (flatN z ((xs.drop l).take (y - l)))[i]? = some v → (flatN z xs)[l * z.cells.size + i]? = some v := by
        intro i v hv
        rw [flatN_take, flatN_drop, List.getElem?_take] at hv
        split at hv
        · rw [List.getElem?_drop] at hv; exact hv
        · cases hv
      refine .sl (fun i => val (l * z.cells.size + i)) (by rw [List.length_take, List.length_drop]; omega) (by omega) (fun i v hv => ?_) (fun i v hv => h2 _ v (at' i v hv))
      rw [← h1 _ v (at' i v hv)]; congr 1; omega

theorem oper_mem {ρ ρ' : Operand → Value} {o : Oper} {x : Operand} (hr : OpR μ ρ ρ' o.op.operands.toList) (hx : x ∈ o.op.operands.toList) : VR μ (ρ x) (ρ' x) := hr x hx

theorem symDT_ok {ρ : Operand → Value} {o : Oper} {h : Hp} {alts : List Alt} (e : symDT std P ρ o h = some alts) : kindOf P o.op = .T ∧ AltsOk alts fun a => a.h = h ∧ SemT P ρ o a.v := by
  unfold symDT at e
  split at e
  · -- a length
    rename_i args argTypes ho
    split at e
    case h_2 => cases e
    rename_i t ht
    split at e
    case h_2 => cases e
    rename_i el v hu hargs
    split at e
    case h_2 => cases e
    rename_i z xs hd
    refine ⟨by rw [ho]; simp only [kindOf, ht, Option.bind_some, hu], alts_pure e ⟨rfl, ?_⟩⟩
    intro μ ρ' w hr
    have hx : ∃ x, args = #[x] ∧ ρ x = v := by
      obtain ⟨l⟩ := args
      match l, hargs with
      | [x], hargs => exact ⟨x, rfl, by simpa using hargs⟩
    obtain ⟨x, rfl, rfl⟩ := hx
    have hv := deep_inv hd (hr x (by rw [ho]; simp [Op.operands, Call.operands]))
    refine ⟨goInt xs.length, ?_, by split; exact .plain1 rfl; exact .zero (.mark (.plain rfl) rfl)⟩
    have hlen : ∃ a k, ρ' x = .slice a xs.length k := by
      rcases hv.inv with ⟨rfl, a, k, e⟩ | ⟨c, o, k, val, e, _⟩
      · exact ⟨a, k, e⟩
      · exact ⟨_, k, e⟩
    obtain ⟨a, k, hs⟩ := hlen
    obtain ⟨dst, op, ty, pos, after, guard⟩ := o
    simp only at ho; subst ho
    simp only [execOp, resolve, invoke, Sem.run_bind, Sem.run_pure, Result.andThen_ok]
    simp [builtin, Builtin.len_, ht, hs, run_underlying hu]
  · -- a place
    rename_i t x i ho
    split at e
    case h_2 => cases e
    rename_i el z xs k n hu hd hi
    split at e
    case isFalse => cases e
    rename_i hsz
    refine ⟨by rw [ho]; rfl, alts_one e fun hob => ⟨rfl, ?_⟩⟩
    obtain ⟨h0, h1⟩ := hob
    have h0 : 0 ≤ n := h0
    have h1 : n < (xs.length : Int) := h1
    intro μ ρ' w hr
    have hv := deep_inv hd (hr x (by rw [ho]; simp [Op.operands]))
    have hin := (hr i (by rw [ho]; simp [Op.operands])).den
    rw [hi] at hin
    have hin := hin.inv_int
    have hlt : n.toNat < xs.length := by omega
    obtain ⟨c, of, kk, hs, _, hp⟩ := dr_index hv hlt
    refine ⟨.pointer (some ⟨c, of + n.toNat * z.cells.size, none⟩), ?_, .zero (hp 0)⟩
    obtain ⟨dst, op, ty, pos, after, guard⟩ := o
    simp only at ho; subst ho
    have hadd : (⟨c, of, none⟩ : Addr).add (n.toNat * z.cells.size) = ⟨c, of + n.toNat * z.cells.size, none⟩ := by
      unfold Addr.add; split
      · simp_all
      · rfl
    have hb : 0 ≤ n ∧ n < (xs.length : Int) := ⟨h0, h1⟩
    simp [execOp, Instr.indexAt, asIntOf, run_underlying hu, hin, hs, hb, szA_run hsz, hadd]
  · -- a field's place
    rename_i s x f ho
    split at e
    case h_2 => cases e
    rename_i fs cs j hu hd
    split at e
    case h_2 => cases e
    rename_i fd hf
    split at e
    case h_2 => cases e
    rename_i n hsz
    refine ⟨by rw [ho]; rfl, alts_pure e ⟨rfl, ?_⟩⟩
    intro μ ρ' w hr
    obtain ⟨c, of, val, hs, h1, h2⟩ := fptr_inv hd (hr x (by rw [ho]; simp [Op.operands]))
    refine ⟨.pointer (some ⟨c, of + (j + fd.offset), none⟩), ?_, .zero (.fptr val h1 h2)⟩
    obtain ⟨dst, op, ty, pos, after, guard⟩ := o
    simp only at ho; subst ho
    have hadd : (⟨c, of + j, none⟩ : Addr).add fd.offset = ⟨c, of + (j + fd.offset), none⟩ := by
      unfold Addr.add; split
      · simp_all
      · simp; omega
    simp [execOp, Instr.fieldAt, run_underlying hu, hf, hs, Instr.sureAddr, fieldPlace, szA_run hsz, hadd]
  · -- no nil
    rename_i x ho
    split at e
    case h_2 => cases e
    rename_i p hd
    refine ⟨by rw [ho]; rfl, alts_pure e ⟨rfl, ?_⟩⟩
    intro μ ρ' w hr
    obtain ⟨cs, j⟩ := p
    have hx := hr x (by rw [ho]; simp [Op.operands])
    obtain ⟨c, of, val, hs, h1, h2⟩ := fptr_inv hd hx
    refine ⟨ρ' x, ?_, hx⟩
    obtain ⟨dst, op, ty, pos, after, guard⟩ := o
    simp only at ho; subst ho
    simp only [execOp, hs]
    rfl
  · -- a part
    rename_i t x lo hi ho
    split at e
    case h_2 => cases e
    rename_i el z xs hu hd
    split at e
    case h_2 => cases e
    rename_i sz o1 y hsz hy
    split at e
    case isFalse => cases e
    rename_i hszz
    split at e
    case h_2 => cases e
    rename_i o2 l hl
    refine ⟨by rw [ho]; rfl, alts_one e fun hob => ⟨rfl, ?_⟩⟩
    have hy := bound_ok hy hob.1
    have hl := bound_ok hl hob.2
    intro μ ρ' w hr
    have hv := deep_inv hd (hr x (by rw [ho]; simp [Op.operands]))
    have opt : ∀ {x : Option Operand}, (∀ y, x = some y → y ∈ o.op.operands.toList) → OptR μ (x.map fun x => den (ρ x)) (x.map ρ') := by
      intro x hm
      exact optR_map (ρ := fun x => den (ρ x)) fun y hy => (hr y (hm y hy)).den
    have ohi : OptR μ (hi.map fun x => den (ρ x)) (hi.map ρ') := opt fun y hy => by rw [ho]; subst hy; simp [Op.operands]
    have olo : OptR μ (lo.map fun x => den (ρ x)) (lo.map ρ') := opt fun y hy => by rw [ho]; subst hy; simp [Op.operands]
    have hyl : y ≤ xs.length := by
      rcases boundA_some hy ohi.1 ohi.2 with ⟨_, h⟩ | ⟨k, n, _, h1, h2, h3⟩
      · have h : y = xs.length := h
        omega
      · have h2 : n ≤ (xs.length : Int) := h2
        omega
    have hll : l ≤ y := by
      rcases boundA_some hl olo.1 olo.2 with ⟨_, h⟩ | ⟨k, n, _, h1, h2, h3⟩ <;> omega
    obtain ⟨a, k, hs, hk, hdr⟩ := dr_slice hll hyl hv
    refine ⟨_, ?_, .zero (.deep hdr)⟩
    have hb := sliceBounds_run (P := P) (μ := μ) (b := true) (len := xs.length) (cap := k) (known := xs.length) (m := k) (mx := none) (mx' := none) hk ⟨fun v h => (by cases h), fun _ => rfl⟩ ohi olo (.inl ⟨rfl, hy, rfl⟩) hl w
    obtain ⟨dst, op, ty, pos, after, guard⟩ := o
    simp only at ho; subst ho
    subst hszz
    simp only [execOp, Instr.sliceAt, Instr.slice, Sem.run_bind, run_underlying hu, Result.andThen_ok, hs, Option.map_none, hb, szA_run hsz, Sem.run_pure]
  · -- held against nil
    rename_i op t x y _ ho
    split at e
    case h_2 => cases e
    rename_i el z xs n k hu hd hy
    have key : ∀ (r : Bool), (∀ a m k, binOp op t (.slice (some a) m k) (.slice none 0 0) = (Op.equal t (.slice (some a) m k) (.slice none 0 0) >>= fun q => pure (.bool (match r with | true => !q | false => q)))) → 0 < xs.length → SemT P ρ o (.bool r) := by
      intro r hop hpos μ ρ' w hr
      have hv := deep_inv hd (hr x (by rw [ho]; simp [Op.operands]))
      have hyv := hr y (by rw [ho]; simp [Op.operands])
      rw [hy] at hyv
      obtain ⟨rfl, rfl, hy'⟩ := hyv.inv_slice_nil
      have hs : ∃ a m k', ρ' x = .slice (some a) m k' := by
        rcases hv.inv with ⟨rfl, _⟩ | ⟨c, of, k', val, e, _⟩
        · simp at hpos
        · exact ⟨_, _, _, e⟩
      obtain ⟨a, m, k', hs⟩ := hs
      refine ⟨.bool r, ?_, .plain1 rfl⟩
      obtain ⟨dst, op', ty, pos, after, guard⟩ := o
      simp only at ho; subst ho
      have he : (Op.equal t (.slice (some a) m k') (.slice none 0 0)).run P w = .ok false w := by
        rw [Op.equal, Op.maxDepth, Op.equalIn]; simp only [Sem.run_bind, run_underlying hu, Result.andThen_ok]; rfl
      simp only [execOp, hs, hy']
      rw [eqGuard_none _ _ _ _ _ _ (by simp) (by simp), hop]
      simp only [Sem.run_bind, Sem.run_pure, Result.andThen_ok, he]
      cases r <;> rfl
    refine ⟨by rw [ho]; rfl, ?_⟩
    split at e
    · exact alts_one e fun hob => ⟨rfl, key false (fun _ _ _ => rfl) hob⟩
    · exact alts_one e fun hob => ⟨rfl, key true (fun _ _ _ => rfl) hob⟩
    · cases e
  · cases e

theorem symDR_ok {ρ : Operand → Value} {o : Oper} {h : Hp} {alts : List Alt} (e : symDR std P ρ o h = some alts) : kindOf P o.op = .R ∧ AltsOk alts fun a => a.h = h ∧ ∀ h', SemR P ρ o h' a.v := by
  unfold symDR at e
  split at e
  · rename_i t a ho
    split at e
    case h_2 => cases e
    rename_i cs j d n hd hu hsz
    refine ⟨by rw [ho]; rfl, ?_⟩
    have cell : ∀ {μ : Mu} {base : Nat} {w : World} {h' : Hp} {ρ' : Operand → Value}, OpR μ ρ ρ' o.op.operands.toList → Rel μ base h'.get w → ∃ (c of : Nat) (val : Nat → Value), ρ' a = .pointer (some ⟨c, of + j, none⟩) ∧ (∀ i u, cs[i]? = some u → w.cell? ⟨c, of + i, none⟩ = some (val i)) ∧ (∀ i u, cs[i]? = some u → VR0 μ u (val i)) := by
      intro μ base w h' ρ' hr hrel
      obtain ⟨c, of, val, hs, h1, h2⟩ := fptr_inv hd (hr a (by rw [ho]; simp [Op.operands]))
      exact ⟨c, of, val, hs, fun i u hu => frozen_cell hrel (h1 i u hu), h2⟩
    split at e
    · rename_i hag
      split at e
      case isFalse => cases e
      rename_i hlen
      refine alts_pure e ⟨rfl, fun h' {μ base w ρ'} hr hrel => ?_⟩
      obtain ⟨c, of, val, hs, h1, h2⟩ := cell hr hrel
      have hl : ((cs.drop j).take n).length = n := by rw [List.length_take, List.length_drop]; omega
      refine ⟨.agg ((List.range n).map fun i => val (j + i)).toArray, ?_, .agg ?_⟩
      · have hc := run_loadCells_list (P := P) w ⟨c, of + j, none⟩ ((List.range n).map fun i => val (j + i)) (fun i v hv => by
          rw [List.getElem?_map] at hv
          cases hri : (List.range n)[i]? with
          | none => rw [hri] at hv; cases hv
          | some i' =>
            have hlt := (List.getElem?_eq_some_iff.1 hri)
            obtain ⟨hlt, he⟩ := hlt
            simp at he hlt
            subst he
            rw [hri] at hv
            simp only [Option.map_some, Option.some.injEq] at hv
            subst hv
            have := h1 (j + i) _ (List.getElem?_eq_getElem (by omega))
            rw [← this]
            congr 1
            unfold Addr.add; split
            · simp_all
            · simp; omega)
        simp only [List.length_map, List.length_range] at hc
        obtain ⟨dst, op, ty, pos, after, guard⟩ := o
        simp only at ho; subst ho
        simp [execOp, Instr.loadAt, loadVar, Instr.sureAddr, hs, isAgg_run hu, hag, szA_run hsz, hc]
      · simp only
        refine ⟨by rw [hl]; simp, fun i u hu' => ?_⟩
        have hi : i < n := by have := (List.getElem?_eq_some_iff.1 hu').1; rw [hl] at this; exact this
        rw [List.getElem?_take, if_pos hi, List.getElem?_drop] at hu'
        exact ⟨val (j + i), by simp [hi], .zero (h2 _ u hu')⟩
    · rename_i hag
      have hag : isAggD d = false := by simpa using hag
      split at e
      case h_2 => cases e
      rename_i v hv
      refine alts_pure e ⟨rfl, fun h' {μ base w ρ'} hr hrel => ?_⟩
      obtain ⟨c, of, val, hs, h1, h2⟩ := cell hr hrel
      refine ⟨val j, ?_, .zero (h2 j v hv)⟩
      have hc := h1 j v hv
      obtain ⟨dst, op, ty, pos, after, guard⟩ := o
      simp only at ho; subst ho
      simp [execOp, Instr.loadAt, loadVar, Instr.sureAddr, hs, isAgg_run hu, hag, hc]
  · rename_i src dst x ho
    split at e
    case h_2 => cases e
    rename_i el hs hd
    split at e
    case h_2 => cases e
    rename_i nz xs he hx
    refine ⟨by rw [ho]; simp only [kindOf, hs, hd], alts_pure e ⟨rfl, fun h' {μ base w ρ'} hr hrel => ?_⟩⟩
    have hv := deep_inv hx (hr x (by rw [ho]; simp [Op.operands]))
    refine ⟨.string (std.sof (std.ints xs)), ?_, .zero (.mark (.plain rfl) rfl)⟩
    have key : (convert src dst (ρ' x)).run P w = .ok (.string (std.sof (std.ints xs))) w := by
      rcases hv.inv with ⟨rfl, a, k, e⟩ | ⟨c, of, k, val, e, hk, h1, h2⟩
      · rw [e]
        cases a with
        | none => exact run_convert_bytes_nil w src el hs he 0 k dst hd
        | some a =>
          rw [run_convert_bytes_string w src dst el _ 0 k hs he hd, run_bytesToString w _ 0 k [] rfl]
          rfl
      · rw [e]
        have hfl : ∀ (l : List Value) (k : Int), flatN (.int .u8 k) l = (std.ints l).map (Value.int .u8) := by
          intro l k
          induction l with
          | nil => rfl
          | cons y l ih => rw [flatN_cons, ih]; rfl
        have hlc := run_loadCells_list (P := P) w ⟨c, of, none⟩ ((std.ints xs).map (Value.int .u8)) (fun i v hv => by
          have hf : (flatN (.int .u8 nz) xs)[i]? = some v := by rw [hfl]; exact hv
          have h3 := h2 i v hf
          have h4 := frozen_cell hrel (h1 i v hf)
          have h5 : val i = v := by
            rw [List.getElem?_map] at hv
            cases hx : (std.ints xs)[i]? with
            | none => rw [hx] at hv; cases hv
            | some n =>
              rw [hx] at hv
              simp only [Option.map_some, Option.some.injEq] at hv
              subst hv
              generalize val i = u at h3
              cases h3 with
              | plain _ => rfl
          rw [h5] at h4
          rw [← h4]
          congr 1
          unfold Addr.add; split
          · simp_all
          · rfl)
        have hl : ((std.ints xs).map (Value.int .u8)).length = xs.length := by rw [List.length_map]; exact List.length_map ..
        rw [hl] at hlc
        rw [run_convert_bytes_string w src dst el _ xs.length k hs he hd, run_bytesToString w _ xs.length k _ hlc, foldl_push_bytes]
        show Result.ok (Value.string ⟨#[] ++ ((std.ints xs).map fun n => UInt8.ofNat n.toNat).toArray⟩) w = Result.ok (Value.string ⟨((std.ints xs).map fun n => UInt8.ofNat n.toNat).toArray⟩) w
        rw [Array.empty_append]
    obtain ⟨dst', op, ty, pos, after, guard⟩ := o
    simp only at ho; subst ho
    simp only [execOp, Sem.run_bind, key, Result.andThen_ok, Sem.run_pure]
  · cases e
end
end Go.Abs
