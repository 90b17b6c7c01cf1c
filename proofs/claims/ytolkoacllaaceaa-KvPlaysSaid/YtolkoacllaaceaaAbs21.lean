/-
  THE ABSTRACT EVALUATOR's FAST TWIN: the slots in a tree; it answers what the evaluator answers.
-/
import Derived.Test.YtolkoacllaaceaaAbs2
namespace Go.Abs
open Go

inductive Vt where
  | leaf
  | node (v : Value) (l r : Vt)

noncomputable def Vt.get (t : Vt) : Nat → Value :=
  @Vt.rec (fun _ => Nat → Value) (fun _ => undef) (fun v _ _ gl gr i => @Nat.rec (fun _ => Value) v (fun j _ => @Bool.rec (fun _ => Value) (gr (j / 2)) (gl (j / 2)) (Nat.beq (j % 2) 0)) i) t
noncomputable def Vt.top (t : Vt) : Value := @Vt.rec (fun _ => Value) undef (fun v _ _ _ _ => v) t
noncomputable def Vt.left (t : Vt) : Vt := @Vt.rec (fun _ => Vt) .leaf (fun _ l _ _ _ => l) t
noncomputable def Vt.right (t : Vt) : Vt := @Vt.rec (fun _ => Vt) .leaf (fun _ _ r _ _ => r) t
noncomputable def Vt.put (f : Nat) (v : Value) : Vt → Nat → Vt :=
  @Nat.rec (fun _ => Vt → Nat → Vt) (fun t _ => t)
    (fun _ ih t i => @Nat.rec (fun _ => Vt) (.node v t.left t.right) (fun j _ => @Bool.rec (fun _ => Vt) (.node t.top t.left (ih t.right (j / 2))) (.node t.top (ih t.left (j / 2)) t.right) (Nat.beq (j % 2) 0)) i) f

theorem Vt.get_zero (t : Vt) : t.get 0 = t.top := by cases t <;> rfl
theorem Vt.get_succ (t : Vt) (j : Nat) : t.get (j + 1) = if j % 2 = 0 then t.left.get (j / 2) else t.right.get (j / 2) := by
  cases t with
  | leaf => show undef = _; split <;> rfl
  | node v l r =>
    show @Bool.rec (fun _ => Value) (r.get (j / 2)) (l.get (j / 2)) (Nat.beq (j % 2) 0) = _
    by_cases h : j % 2 = 0
    · rw [h]; rfl
    · have : Nat.beq (j % 2) 0 = false := beq_off h
      rw [this, if_neg h]; rfl
theorem Vt.put_zero (f : Nat) (v : Value) (t : Vt) : Vt.put (f + 1) v t 0 = .node v t.left t.right := rfl
theorem Vt.put_succ (f : Nat) (v : Value) (t : Vt) (j : Nat) :
    Vt.put (f + 1) v t (j + 1) = if j % 2 = 0 then .node t.top (Vt.put f v t.left (j / 2)) t.right else .node t.top t.left (Vt.put f v t.right (j / 2)) := by
  show @Bool.rec (fun _ => Vt) (Vt.node t.top t.left (Vt.put f v t.right (j / 2))) (.node t.top (Vt.put f v t.left (j / 2)) t.right) (Nat.beq (j % 2) 0) = _
  by_cases h : j % 2 = 0
  · rw [h]; rfl
  · have : Nat.beq (j % 2) 0 = false := beq_off h
    rw [this, if_neg h]
theorem Vt.get_put (v : Value) : ∀ (f : Nat) (t : Vt) (i j : Nat), i < f → (Vt.put f v t i).get j = if j = i then v else t.get j := by
  intro f
  induction f with
  | zero => intro t i j h; omega
  | succ f ih =>
    intro t i j h
    cases i with
    | zero =>
      rw [Vt.put_zero]
      cases j with
      | zero => rfl
      | succ j => rw [if_neg (by omega), Vt.get_succ, Vt.get_succ]; rfl
    | succ i =>
      rw [Vt.put_succ]
      cases j with
      | zero =>
        have e : ¬ (0 = i + 1) := by omega
        rw [if_neg e, Vt.get_zero t]
        split <;> rfl
      | succ j =>
        rw [Vt.get_succ t]
        split
        · rename_i hi
          rw [Vt.get_succ]
          split
          · rename_i hj
            show (Vt.put f v t.left (i / 2)).get (j / 2) = _
            rw [ih _ _ _ (by omega)]
            by_cases e : j = i
            · subst e; simp
            · rw [if_neg (by omega), if_neg (by omega)]
          · rw [if_neg (by omega)]; rfl
        · rename_i hi
          rw [Vt.get_succ]
          split
          · rw [if_neg (by omega)]; rfl
          · rename_i hj
            show (Vt.put f v t.right (i / 2)).get (j / 2) = _
            rw [ih _ _ _ (by omega)]
            by_cases e : j = i
            · subst e; simp
            · rw [if_neg (by omega), if_neg (by omega)]

/-- Slots in a tree. -/
structure Sf where
  t : Vt
  h : Hp

noncomputable def listF (m : Nat) (t : Vt) : List Value := (List.range m).map t.get
noncomputable def stF (m : Nat) (f : Sf) : St := ⟨listF m f.t, f.h⟩

noncomputable def evF (m : Nat) (t : Vt) : Operand → Value
  | .tmp i => cond (Nat.ble m i) undef (t.get i)
  | .const v => v
  | .global _ => undef
  | .func f => .func (.func f) #[] #[]

theorem listF_get (m : Nat) (t : Vt) (i : Nat) : (listF m t)[i]? = if i < m then some (t.get i) else none := by
  unfold listF
  rw [List.getElem?_map]
  by_cases h : i < m
  · rw [List.getElem?_range h, if_pos h]; rfl
  · rw [List.getElem?_eq_none (by simpa using h), if_neg h]; rfl

theorem ble_eqF (a b : Nat) : Nat.ble a b = decide (a ≤ b) := by
  rw [Bool.eq_iff_iff, decide_eq_true_iff, Nat.ble_eq]

theorem evF_eq (m : Nat) (t : Vt) : evA (listF m t) = evF m t := by
  funext x
  cases x with
  | tmp i =>
    show (listF m t).getD i undef = cond (Nat.ble m i) undef (t.get i)
    rw [List.getD_eq_getElem?_getD, listF_get, ble_eqF]
    by_cases h : i < m
    · have h2 : ¬ (m ≤ i) := Nat.not_le.2 h
      simp [h, h2]
    · have h2 : m ≤ i := Nat.not_lt.1 h
      simp [h, h2]
  | _ => rfl

noncomputable def putF (m : Nat) (t : Vt) (dst : Option Tmp) (v : Value) : Vt :=
  match dst with
  | some d => cond (Nat.ble m d) t (Vt.put m v t d)
  | none => t

theorem putF_eq (m : Nat) (t : Vt) (dst : Option Tmp) (v : Value) (h0 h : Hp) : (⟨St.put ⟨listF m t, h0⟩ dst v, h⟩ : St) = stF m ⟨putF m t dst v, h⟩ := by
  show (⟨_, h⟩ : St) = ⟨_, h⟩
  congr 1
  cases dst with
  | none => rfl
  | some d =>
    show (listF m t).set d v = listF m (cond (Nat.ble m d) t (Vt.put m v t d))
    apply List.ext_getElem?
    intro i
    rw [List.getElem?_set, listF_get, listF_get, ble_eqF]
    have hl : (listF m t).length = m := by simp [listF]
    by_cases hd : d < m
    · have h2 : ¬ (m ≤ d) := Nat.not_le.2 hd
      simp only [h2, decide_false, cond_false, hl]
      rw [Vt.get_put v m t d i hd]
      by_cases e : d = i
      · subst e; simp [hd]
      · rw [if_neg e, if_neg (Ne.symm e)]
    · have h2 : m ≤ d := Nat.not_lt.1 hd
      simp only [h2, decide_true, cond_true, hl]
      by_cases e : d = i
      · subst e; simp [hd]
      · rw [if_neg e]

noncomputable def yieldedF (m : Nat) (ops : Array Oper) (t : Vt) (j : Nat) : Option Bool :=
  match (ops[j]?).bind (·.dst) with
  | some i => cond (Nat.ble m i) none (match t.get i with
    | .bool b => some b
    | _ => none)
  | none => none
noncomputable def wantedF (m : Nat) (ops : Array Oper) (o : Oper) (t : Vt) : Bool :=
  match o.guard with
  | none => true
  | some (j, want) => yieldedF m ops t j == some want
theorem wantedF_eq (m : Nat) (ops : Array Oper) (o : Oper) (t : Vt) : wantedA ops o (listF m t) = wantedF m ops o t := by
  unfold wantedA wantedF
  cases o.guard with
  | none => rfl
  | some g =>
    obtain ⟨j, want⟩ := g
    have : yieldedA ops (listF m t) j = yieldedF m ops t j := by
      unfold yieldedA yieldedF
      cases (ops[j]?).bind (·.dst) with
      | none => rfl
      | some i =>
        simp only [Option.bind_some]
        rw [listF_get, ble_eqF]
        by_cases h : i < m
        · have h2 : ¬ (m ≤ i) := Nat.not_le.2 h
          simp only [h, h2, if_true, decide_false, cond_false]
          split
          · rename_i b hb; simp only [Option.some.injEq] at hb; rw [hb]
          · rename_i hb
            split
            · rename_i b hb'; exact absurd (by rw [hb']) (hb b)
            · rfl
        · have h2 : m ≤ i := Nat.not_lt.1 h
          simp [h, h2]
    simp only [this]

/-- So many elements turned over onto a list; a pair is handed back, so that the kernel's stack unwinds. -/
noncomputable def revC (n : Nat) : List Value → List Value → List Value × List Value :=
  @Nat.rec (fun _ => List Value → List Value → List Value × List Value) (fun l acc => (l, acc)) (fun _ ih l acc => @List.rec Value (fun _ => List Value × List Value) ([], acc) (fun x l _ => ih l (x :: acc)) l) n
theorem revC_spec : ∀ (n : Nat) (l acc : List Value), (revC n l acc).1.reverse ++ (revC n l acc).2 = l.reverse ++ acc
  | 0, _, _ => rfl
  | n + 1, [], _ => rfl
  | n + 1, x :: l, acc => by
    show (revC n l (x :: acc)).1.reverse ++ (revC n l (x :: acc)).2 = _
    rw [revC_spec n l (x :: acc), List.reverse_cons, List.append_assoc]; rfl
noncomputable def revAll {α : Type} (n : Nat) : List Value → List Value → (List Value → α) → α :=
  @Nat.rec (fun _ => List Value → List Value → (List Value → α) → α) (fun l acc K => K (l.reverse ++ acc)) (fun _ ih l acc K => @Prod.rec (List Value) (List Value) (fun _ => α) (fun l' acc' => @List.rec Value (fun _ => α) (K acc') (fun x l'' _ => ih (x :: l'') acc' K) l') (revC 64 l acc)) n
theorem revAll_spec {α : Type} : ∀ (n : Nat) (l acc : List Value) (K : List Value → α), revAll n l acc K = K (l.reverse ++ acc)
  | 0, _, _, _ => rfl
  | n + 1, l, acc, K => by
    have h := revC_spec 64 l acc
    show @Prod.rec (List Value) (List Value) (fun _ => α) (fun l' acc' => @List.rec Value (fun _ => α) (K acc') (fun x l'' _ => revAll n (x :: l'') acc' K) l') (revC 64 l acc) = _
    generalize revC 64 l acc = p at h ⊢
    obtain ⟨l', acc'⟩ := p
    rw [← h]
    cases l' with
    | nil => rfl
    | cons x l'' => exact revAll_spec n (x :: l'') acc' K
/-- A list is worked out before it is handed on. -/
noncomputable def forceSp {α : Type} (l : List Value) (K : List Value → α) : α := revAll 1000 l [] fun r => revAll 1000 r [] K
theorem forceSp_eq {α : Type} (l : List Value) (K : List Value → α) : forceSp l K = K l := by
  unfold forceSp
  rw [revAll_spec, revAll_spec, List.append_nil, List.append_nil, List.reverse_reverse]
/-- append, its cells worked out. -/
noncomputable def appendF (P : Program) (st xt : TypeId) (s x : Value) (h : Hp) : Option (Value × Hp) :=
  match P.underlying st with
  | some (.slice e) => match P.info? e, zeroA P e with
    | some i, some z =>
      if 0 < i.size ∧ z.cells.size = i.size then
        match sourceA P i.size xt z.cells.toList x h with
        | some (m, news) =>
          if m = 0 then (match s with | .slice _ _ _ => some (s, h) | _ => none)
          else match s with
            | .slice none 0 0 =>
              if m * i.bytes ≤ 140737488355328 ∧ m ≤ 4611686018427387904 then (forceSp (news) fun fl => some (.slice (some ⟨h.next, 0, none⟩) m (unk i.size), h.push (.cells fl false))) else none
            | .slice (some ⟨b, o, none⟩) len cap =>
              if (len + m) * i.bytes ≤ 140737488355328 ∧ len + m ≤ 4611686018427387904 then
                if isUnk cap then
                  match h.get b with
                  | some (.cells cs false) =>
                    if cap = unk i.size ∧ o + len * i.size ≤ cs.length ∧ len * i.size + news.length ≠ 1 then
                      (forceSp (((cs.drop o).take (len * i.size) ++ news)) fun fl => some (.slice (some ⟨h.next, 0, none⟩) (len + m) cap, (h.put b none).push (.cells fl false)))
                    else none
                  | _ => none
                else if len + m ≤ cap then
                  match h.get b with
                  | some (.cells cs false) =>
                    if o + (len + m) * i.size ≤ cs.length then (forceSp ((spliceL cs (o + len * i.size) news)) fun fl => some (.slice (some ⟨b, o, none⟩) (len + m) cap, h.put b (some (.cells fl false))))
                    else none
                  | _ => none
                else match h.cells b o (len * i.size) with
                  | some olds => (forceSp ((olds ++ news)) fun fl => some (.slice (some ⟨h.next, 0, none⟩) (len + m) (unk i.size), h.push (.cells fl false)))
                  | none => none
              else none
            | _ => none
        | none => none
      else none
    | _, _ => none
  | _ => none
theorem appendF_eq (P : Program) (st xt : TypeId) (s x : Value) (h : Hp) : appendF P st xt s x h = appendA P st xt s x h := by
  unfold appendF
  rw [show @forceSp (Option (Value × Hp)) = fun l K => K l from funext fun l => funext fun K => forceSp_eq l K]
  rfl
noncomputable def stepEF (m : Nat) (P : Program) (o : Oper) (t : Vt) (h : Hp) : Option (Value × Hp) :=
  match o.op with
  | .call { callee := .builtin .append, args, argTypes } => match argTypes.toList, args.toList.map (evF m t) with
    | [st, xt], [s, x] => appendF P st xt s x h
    | _, _ => none
  | _ => stepE P (evF m t) o h
theorem stepEF_eq (m : Nat) (P : Program) (o : Oper) (t : Vt) (h : Hp) : stepE P (evF m t) o h = stepEF m P o t h := by
  unfold stepEF
  split
  · rename_i args argTypes hop
    unfold stepE
    rw [hop]
    simp only
    generalize argTypes.toList = l1
    generalize args.toList.map (evF m t) = l2
    rcases l1 with _ | ⟨a, _ | ⟨b, _ | ⟨c, l1⟩⟩⟩ <;> rcases l2 with _ | ⟨d, _ | ⟨e, _ | ⟨f, l2⟩⟩⟩ <;> first
      | rfl
      | exact (appendF_eq P _ _ _ _ h).symm
  · rfl
noncomputable def stepF (m : Nat) (P : Program) (call : Caller) (o : Oper) (t : Vt) (h : Hp) : Option (Value × Hp) :=
  if o.op.operands.toList.all okOperand then
    match kindOf P o.op with
    | .T => match stepT P (evF m t) o with
      | some v => some (v, h)
      | none => none
    | .R => match stepR P (evF m t) o h with
      | some v => some (v, h)
      | none => none
    | .N => match stepN P (evF m t) o with
      | some (b, g) => some (g h.next, h.push b)
      | none => none
    | .E => stepEF m P o t h
    | .C => match o.op with
      | .call c => match callee (evF m t) c with
        | some (g, args) => call g args h
        | none => none
      | _ => none
    | .bad => none
  else none
theorem stepF_eq (m : Nat) (P : Program) (call : Caller) (o : Oper) (t : Vt) (h : Hp) : stepO P call o ⟨listF m t, h⟩ = stepF m P call o t h := by
  unfold stepO stepF
  rw [evF_eq]
  split
  · cases kindOf P o.op with
    | T => simp only; cases stepT P (evF m t) o <;> rfl
    | R => simp only; cases stepR P (evF m t) o h <;> rfl
    | N => simp only; cases stepN P (evF m t) o <;> rfl
    | E => exact stepEF_eq m P o t h
    | C => rfl
    | bad => rfl
  · rfl

noncomputable def liveF (m : Nat) (ops : Array Oper) (o : Oper) (t : Vt) : Bool :=
  match o.guard with
  | none => true
  | some (j, _) => match (ops[j]?).bind (·.dst) with
    | some i => cond (Nat.ble m i) true (knownV (t.get i))
    | none => true
theorem liveF_eq (m : Nat) (ops : Array Oper) (o : Oper) (t : Vt) : liveG ops o (listF m t) = liveF m ops o t := by
  unfold liveG liveF
  cases o.guard with
  | none => rfl
  | some g =>
    obtain ⟨j, want⟩ := g
    simp only
    cases (ops[j]?).bind (·.dst) with
    | none => rfl
    | some i =>
      simp only [Option.bind_some]
      rw [listF_get, ble_eqF]
      by_cases h : i < m
      · have h2 : ¬ (m ≤ i) := Nat.not_le.2 h
        simp [h, h2]
      · have h2 : m ≤ i := Nat.not_lt.1 h
        simp [h, h2]

noncomputable def runOpsF (m : Nat) (P : Program) (call : Caller) (ops : Array Oper) : List Oper → Vt → Hp → Option Sf
  | [], t, h => some ⟨t, h⟩
  | o :: rest, t, h =>
    if liveF m ops o t then
    if wantedF m ops o t then
      match stepF m P call o t h with
      | some (v, h') => runOpsF m P call ops rest (putF m t o.dst v) h'
      | none => none
    else runOpsF m P call ops rest (putF m t o.dst undef) h
    else none
theorem runOpsF_eq (m : Nat) (P : Program) (call : Caller) (ops : Array Oper) : ∀ (l : List Oper) (t : Vt) (h : Hp), runOps P call ops l ⟨listF m t, h⟩ = (runOpsF m P call ops l t h).map (stF m)
  | [], t, h => rfl
  | o :: rest, t, h => by
    unfold runOps runOpsF
    rw [liveF_eq, wantedF_eq, stepF_eq]
    split
    · split
      · cases stepF m P call o t h with
        | none => rfl
        | some r =>
          simp only
          rw [putF_eq]
          exact runOpsF_eq m P call ops rest _ _
      · rw [putF_eq]
        exact runOpsF_eq m P call ops rest _ _
    · rfl

noncomputable def runOpsTF (m : Nat) (P : Program) (call : Caller) (ops : Array Oper) : List Oper → Vt → Hp → Option (List Sf)
  | [], t, h => some [⟨t, h⟩]
  | o :: rest, t, h =>
    if liveF m ops o t then
    if wantedF m ops o t then
      match stepF m P call o t h with
      | some (v, h') => match runOpsTF m P call ops rest (putF m t o.dst v) h' with
        | some l => some (⟨t, h⟩ :: l)
        | none => none
      | none => none
    else match runOpsTF m P call ops rest (putF m t o.dst undef) h with
      | some l => some (⟨t, h⟩ :: l)
      | none => none
    else none
theorem runOpsTF_eq (m : Nat) (P : Program) (call : Caller) (ops : Array Oper) : ∀ (l : List Oper) (t : Vt) (h : Hp), runOpsT P call ops l ⟨listF m t, h⟩ = (runOpsTF m P call ops l t h).map (List.map (stF m))
  | [], t, h => rfl
  | o :: rest, t, h => by
    unfold runOpsT runOpsTF
    rw [liveF_eq, wantedF_eq, stepF_eq]
    split
    · split
      · cases stepF m P call o t h with
        | none => rfl
        | some r =>
          simp only
          rw [putF_eq, show stF m ⟨putF m t o.dst r.1, r.2⟩ = ⟨listF m (putF m t o.dst r.1), r.2⟩ from rfl, runOpsTF_eq m P call ops rest]
          cases runOpsTF m P call ops rest _ _ <;> rfl
      · rw [putF_eq, show stF m ⟨putF m t o.dst undef, h⟩ = ⟨listF m (putF m t o.dst undef), h⟩ from rfl, runOpsTF_eq m P call ops rest]
        cases runOpsTF m P call ops rest _ _ <;> rfl
    · rfl

noncomputable def sameReadF (m : Nat) (chk : Chk) (P : Program) (o : Oper) (si sj : Sf) : Bool :=
  match stepR P (evF m si.t) o si.h, stepR P (evF m si.t) o sj.h with
  | some u, some v => chk u v
  | _, _ => false
noncomputable def pairOkF (m : Nat) (chk : Chk) (P : Program) (ops : Array Oper) (tr : List Sf) (p : Nat × Nat) : Bool :=
  match ops[p.1]?, tr[p.1]?, tr[p.2]?, tr[p.2 + 1]? with
  | some o, some si, some sj, some sk => !wantedF m ops o si.t || (sameReadF m chk P o si sj && sameReadF m chk P o si sk)
  | _, _, _, _ => false
theorem sameReadF_eq (m : Nat) (chk : Chk) (P : Program) (o : Oper) (si sj : Sf) : sameRead chk P o (stF m si) (stF m sj) = sameReadF m chk P o si sj := by
  unfold sameRead sameReadF
  rw [show evA (stF m si).tmps = evF m si.t from evF_eq m si.t]; rfl
theorem pairOkF_eq (m : Nat) (chk : Chk) (P : Program) (ops : Array Oper) (tr : List Sf) (p : Nat × Nat) : pairOk chk P ops (tr.map (stF m)) p = pairOkF m chk P ops tr p := by
  unfold pairOk pairOkF
  simp only [List.getElem?_map]
  cases ops[p.1]? with
  | none => rfl
  | some o =>
    cases tr[p.1]? with
    | none => rfl
    | some si =>
      cases tr[p.2]? with
      | none => rfl
      | some sj =>
        cases tr[p.2 + 1]? with
        | none => rfl
        | some sk =>
          simp only [Option.map_some, sameReadF_eq]
          rw [show wantedA ops o (stF m si).tmps = wantedF m ops o si.t from wantedF_eq m ops o si.t]

noncomputable def runDrawF (m : Nat) (chk : Chk) (P : Program) (call : Caller) (ops : Array Oper) (t : Vt) (h : Hp) : Option Sf :=
  if staticOk P ops then
    match runOpsTF m P call ops ops.toList t h with
    | some tr => if (drawPairs P ops).all (pairOkF m chk P ops tr) then tr[ops.size]? else none
    | none => none
  else none
theorem runDrawF_eq (m : Nat) (chk : Chk) (P : Program) (call : Caller) (ops : Array Oper) (t : Vt) (h : Hp) : runDraw chk P call ops ⟨listF m t, h⟩ = (runDrawF m chk P call ops t h).map (stF m) := by
  unfold runDraw runDrawF
  rw [runOpsTF_eq]
  split
  · cases runOpsTF m P call ops ops.toList t h with
    | none => rfl
    | some tr =>
      simp only [Option.map_some]
      rw [show pairOk chk P ops (tr.map (stF m)) = pairOkF m chk P ops tr from funext fun p => pairOkF_eq m chk P ops tr p]
      split
      · rw [List.getElem?_map]
      · rfl
  · rfl

noncomputable def resultF (m : Nat) (P : Program) (f : Sf) : ResultVar → Option Value
  | .tmp t => some (evF m f.t (.tmp t))
  | .cell a t => loadA P t (evF m f.t (.tmp a)) f.h
noncomputable def resultsLF (m : Nat) (P : Program) (f : Sf) : List ResultVar → Option (List Value)
  | [] => some []
  | r :: rest => match resultF m P f r, resultsLF m P f rest with
    | some v, some l => some (v :: l)
    | _, _ => none
noncomputable def resultsF (m : Nat) (P : Program) (fn : Func) (f : Sf) : Option Value :=
  match resultsLF m P f fn.results.toList with
  | some [v] => some v
  | some vs => if vs.all noTuple then some (.tuple vs.toArray) else none
  | none => none
theorem resultsLF_eq (m : Nat) (P : Program) (f : Sf) : ∀ (l : List ResultVar), resultsL P (stF m f) l = resultsLF m P f l
  | [] => rfl
  | r :: l => by
    unfold resultsL resultsLF
    rw [resultsLF_eq m P f l]
    have : resultA P (stF m f) r = resultF m P f r := by
      cases r with
      | tmp t => show some (evA (listF m f.t) (.tmp t)) = _; rw [evF_eq]; rfl
      | cell a t => show loadA P t (evA (listF m f.t) (.tmp a)) f.h = _; rw [evF_eq]; rfl
    rw [this]; rfl
theorem resultsF_eq (m : Nat) (P : Program) (fn : Func) (f : Sf) : resultsA P fn (stF m f) = resultsF m P fn f := by
  unfold resultsA resultsF
  rw [resultsLF_eq]; rfl

/-- A list's values from a place on. -/
noncomputable def layF (n : Nat) : List Value → Nat → Vt → Vt
  | [], _, t => t
  | v :: l, k, t => layF n l (k + 1) (Vt.put n v t k)
theorem layF_get (n : Nat) : ∀ (l : List Value) (k : Nat) (t : Vt) (i : Nat), k + l.length ≤ n → (layF n l k t).get i = if k ≤ i then (match l[i - k]? with | some v => v | none => t.get i) else t.get i
  | [], k, t, i, _ => by simp [layF]
  | v :: l, k, t, i, h => by
    simp only [List.length_cons] at h
    unfold layF
    rw [layF_get n l (k + 1) _ i (by omega), Vt.get_put v n t k i (by omega)]
    by_cases h1 : i = k
    · subst h1
      have e : ¬ (i + 1 ≤ i) := by omega
      rw [if_neg e, if_pos rfl, if_pos (Nat.le_refl _), Nat.sub_self]; rfl
    · rw [if_neg h1]
      by_cases h2 : k + 1 ≤ i
      · have h3 : k ≤ i := by omega
        rw [if_pos h2, if_pos h3, show i - k = (i - (k + 1)) + 1 from by omega, List.getElem?_cons_succ]
      · have h3 : ¬ (k ≤ i) := by omega
        rw [if_neg h2, if_neg h3]

noncomputable def startF (m : Nat) (args : List Value) (h : Hp) : Sf := ⟨layF m args 0 .leaf, h⟩
theorem startF_eq (args : List Value) (n : Nat) (h : Hp) : (⟨args ++ List.replicate (n - args.length) undef, h⟩ : St) = stF (args.length + (n - args.length)) (startF (args.length + (n - args.length)) args h) := by
  show (⟨_, h⟩ : St) = ⟨_, h⟩
  congr 1
  apply List.ext_getElem?
  intro i
  rw [listF_get]
  show _ = if i < args.length + (n - args.length) then some ((layF (args.length + (n - args.length)) args 0 .leaf).get i) else none
  rw [layF_get _ _ _ _ _ (by omega)]
  simp only [Nat.zero_le, if_true, Nat.sub_zero]
  by_cases h1 : i < args.length
  · rw [List.getElem?_append_left h1, if_pos (by omega), List.getElem?_eq_getElem h1]
  · rw [List.getElem?_append_right (by omega), List.getElem?_replicate, List.getElem?_eq_none (by omega : args.length ≤ i)]
    by_cases h2 : i < args.length + (n - args.length)
    · rw [if_pos (by omega), if_pos h2]; rfl
    · rw [if_neg (by omega), if_neg h2]

/-- A number is worked out before it is handed on. -/
noncomputable def forceN {α : Type} (n : Nat) (k : Nat → α) : α := @Nat.rec (fun _ => α) (k 0) (fun i _ => k (Nat.succ i)) n
theorem forceN_eq {α : Type} (n : Nat) (k : Nat → α) : forceN n k = k n := by cases n <;> rfl

noncomputable def callWithF (P : Program) (X : Known) (rc : Nat → Code → Sf → Option (Ex × Sf)) : Caller := fun f args h =>
  match X f with
  | some g => g args h
  | none =>
  match P.funcs[f]? with
  | none => none
  | some fn =>
    match fn.body with
    | none => externA fn.name fn.origin args h
    | some c => forceN (args.length + (fn.ntmps - args.length)) fun m => match rc m c (startF m args h) with
      | some (.normal, s) | some (.ret, s) => match resultsF m P fn s with
        | some v => some (v, s.h)
        | none => none
      | _ => none

noncomputable def runF (chk : Chk) (P : Program) (X : Known) : Nat → Nat → Code → Sf → Option (Ex × Sf)
  | 0, _, _, _ => none
  | n + 1, m, c, s =>
    match c with
    | .skip => some (.normal, s)
    | .label _ => some (.normal, s)
    | .ret => some (.ret, s)
    | .exit id => some (.exit id, s)
    | .goto l => some (.goto l, s)
    | .region _ ops draw =>
      if draw then match runDrawF m chk P (callWithF P X (runF chk P X n)) ops s.t s.h with
        | some s' => some (.normal, s')
        | none => none
      else match runOpsF m P (callWithF P X (runF chk P X n)) ops ops.toList s.t s.h with
        | some s' => some (.normal, s')
        | none => none
    | .seq a b => match runF chk P X n m a s with
      | some (.normal, s1) => runF chk P X n m b s1
      | r => r
    | .cond c a b => if okOperand c then match condA (evF m s.t c) with
        | some t => runF chk P X n m (if t then a else b) s
        | none => none
      else none
    | .block id b => match runF chk P X n m b s with
      | some (.exit id', s1) => if id' = id then some (.normal, s1) else some (.exit id', s1)
      | r => r
    | .loop b => match runF chk P X n m b s with
      | some (.normal, s1) => runF chk P X n m (.loop b) s1
      | r => r
    | .scope b => match runF chk P X n m b s with
      | some (.goto l, s1) => match findLabel b l with
        | some rest => match runF chk P X n m rest s1 with
          | some (.goto _, _) => none
          | r => r
        | none => none
      | r => r
    | .rangeFunc .. => none
    | .refuse _ => none

theorem callWithF_eq (P : Program) (X : Known) {rc : Code → St → Option (Ex × St)} {rcF : Nat → Code → Sf → Option (Ex × Sf)} (h : ∀ m c f, rc c (stF m f) = (rcF m c f).map fun x => (x.1, stF m x.2)) : callWith P X rc = callWithF P X rcF := by
  funext f args hp
  unfold callWith callWithF
  cases X f with
  | some g => rfl
  | none =>
    simp only
    cases P.funcs[f]? with
    | none => rfl
    | some fn =>
      simp only
      cases fn.body with
      | none => rfl
      | some c =>
        simp only
        rw [startF_eq, h, forceN_eq]
        cases rcF _ c (startF (args.length + (fn.ntmps - args.length)) args hp) with
        | none => rfl
        | some r =>
          obtain ⟨ex, s⟩ := r
          simp only [Option.map_some]
          cases ex with
          | normal => simp only; rw [resultsF_eq]; rfl
          | ret => simp only; rw [resultsF_eq]; rfl
          | exit _ => rfl
          | goto _ => rfl

theorem runF_eq (chk : Chk) (P : Program) (X : Known) : ∀ (n m : Nat) (c : Code) (f : Sf), run chk P X n c (stF m f) = (runF chk P X n m c f).map fun x => (x.1, stF m x.2)
  | 0, m, c, f => rfl
  | n + 1, m, c, f => by
    have ih := runF_eq chk P X n
    have hc : callWith P X (run chk P X n) = callWithF P X (runF chk P X n) := callWithF_eq P X ih
    unfold run runF
    cases c with
    | skip => rfl
    | label _ => rfl
    | ret => rfl
    | exit _ => rfl
    | goto _ => rfl
    | rangeFunc _ _ _ _ => rfl
    | refuse _ => rfl
    | region _ ops draw =>
      simp only
      rw [hc, show stF m f = ⟨listF m f.t, f.h⟩ from rfl, runDrawF_eq, runOpsF_eq]
      split
      · cases runDrawF m chk P _ ops f.t f.h <;> rfl
      · cases runOpsF m P _ ops ops.toList f.t f.h <;> rfl
    | seq a b =>
      simp only
      rw [ih m a f]
      cases runF chk P X n m a f with
      | none => rfl
      | some r =>
        obtain ⟨ex, s⟩ := r
        cases ex with
        | normal => simp only [Option.map_some]; rw [ih m b s]
        | _ => rfl
    | cond c a b =>
      simp only
      rw [show evA (stF m f).tmps = evF m f.t from evF_eq m f.t]
      split
      · cases condA (evF m f.t c) with
        | none => rfl
        | some t => simp only; rw [ih m _ f]
      · rfl
    | block id b =>
      simp only
      rw [ih m b f]
      cases runF chk P X n m b f with
      | none => rfl
      | some r =>
        obtain ⟨ex, s⟩ := r
        cases ex with
        | exit id' => simp only [Option.map_some]; split <;> rfl
        | _ => rfl
    | loop b =>
      simp only
      rw [ih m b f]
      cases runF chk P X n m b f with
      | none => rfl
      | some r =>
        obtain ⟨ex, s⟩ := r
        cases ex with
        | normal => simp only [Option.map_some]; rw [ih m _ s]
        | _ => rfl
    | scope b =>
      simp only
      rw [ih m b f]
      cases runF chk P X n m b f with
      | none => rfl
      | some r =>
        obtain ⟨ex, s⟩ := r
        cases ex with
        | goto l =>
          simp only [Option.map_some]
          cases findLabel b l with
          | none => rfl
          | some rest =>
            simp only
            rw [ih m rest s]
            cases runF chk P X n m rest s with
            | none => rfl
            | some r =>
              obtain ⟨ex, s'⟩ := r
              cases ex <;> rfl
        | _ => rfl

noncomputable def callF (chk : Chk) (P : Program) (X : Known) (n : Nat) : Caller := callWithF P X (runF chk P X n)
theorem callF_eq (chk : Chk) (P : Program) (X : Known) (n : Nat) : callN chk P X n = callF chk P X n := callWithF_eq P X (runF_eq chk P X n)
end Go.Abs
