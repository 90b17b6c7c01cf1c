/-
  UNKNOWN VALUES: operations that write memory, or make it.
-/
import Derived.Test.YtolkoacllaaceaaAbs32
namespace Go.Abs
open Go

noncomputable section
variable (S : Sy)

/-- What is appended: elements that are told one by one, or a row. -/
inductive SrcX where
  | conc (m : Nat) (cs : List Value)
  | row (ob : Prop) (m : Nat) (r : Row)

def symSrc (P : Program) (sz : Nat) (xt : TypeId) (x : Value) (h : Hp) : Option SrcX :=
  match P.underlying xt, den x with
  | some (.slice _), .slice none 0 0 => some (.conc 0 [])
  | some (.slice _), .slice (some ⟨b, o, none⟩) n _ => match h.get b with
    | some (.row r _) => if r.esz = sz then some (.row (r.sub S o n).1 n (r.sub S o n).2) else none
    | some (.cells cs _) =>
      if isMark x then match rowOf sz cs with
        | some r => if r.esz = sz then some (.row (r.sub S o n).1 n (r.sub S o n).2) else none
        | none => none
      else if o + n * sz ≤ cs.length then some (.conc n ((cs.drop o).take (n * sz))) else none
    | _ => none
  | some .string, .string s => if sz = 1 then (if isMark x then some (.row True (S.slen s) (.ints .u8 (S.sbytes s))) else some (.conc s.data.toList.length (valBytes s))) else none
  | _, _ => none

def Row.app : Row → Row → Option Row
  | .ints k xs, .ints k' ys => if k = k' then some (.ints k (S.app xs ys)) else none
  | .bools xs, .bools ys => some (.bools (S.app xs ys))
  | .strs xs, .strs ys => some (.strs (S.app xs ys))
  | .pairs xs, .pairs ys => some (.pairs (S.app xs ys))
  | _, _ => none

def sizeOk (n bytes : Nat) : Prop := S.nle (S.nmul n bytes) 140737488355328 ∧ S.nle n 4611686018427387904

def symApp (P : Program) (st xt : TypeId) (s x : Value) (h : Hp) : Option (List Alt) :=
  match P.underlying st with
  | some (.slice e) => match P.info? e, zeroA P e with
    | some i, some z =>
      if 0 < i.size ∧ z.cells.size = i.size then
        match symSrc S P i.size xt x h, den s with
        | some (.row ob m r2), .slice none 0 0 => some [⟨some (S.nbeq m 0 = true), some ob, .slice none 0 0, h⟩,
            ⟨some (S.nbeq m 0 = false), some (ob ∧ sizeOk S m i.bytes), mk (.slice (some ⟨h.next, 0, none⟩) m (unk i.size)), h.push (.row r2 false)⟩]
        | some (.conc 0 _), .slice _ _ _ => pure1 h s
        | some (.conc m cs), .slice (some ⟨b, o, none⟩) len cap => match h.get b with
          | some (.row r false) =>
            if r.esz = i.size ∧ cap = unk i.size ∧ 0 < m then match rowLike r cs with
              | some r2 => match (r.sub S o len).2.app S r2 with
                | some r3 => one h ((r.sub S o len).1 ∧ sizeOk S (S.nadd len m) i.bytes ∧ S.nlt 1 (S.nmul (S.nadd len m) i.size)) (mk (.slice (some ⟨h.next, 0, none⟩) (S.nadd len m) cap)) |>.map
                    (List.map fun a => { a with h := (h.put b none).push (.row r3 false) })
                | none => none
              | none => none
            else none
          | _ => none
        | some (.row ob m r2), .slice (some ⟨b, o, none⟩) len cap => match h.get b with
          | some (.row r false) =>
            if r.esz = i.size ∧ cap = unk i.size then match (r.sub S o len).2.app S r2 with
              | some r3 => some [⟨some (S.nbeq m 0 = true), some ob, s, h⟩,
                  ⟨some (S.nbeq m 0 = false), some (ob ∧ (r.sub S o len).1 ∧ sizeOk S (S.nadd len m) i.bytes ∧ S.nlt 1 (S.nmul (S.nadd len m) i.size)), mk (.slice (some ⟨h.next, 0, none⟩) (S.nadd len m) cap), (h.put b none).push (.row r3 false)⟩]
              | none => none
            else none
          | some (.cells cs false) =>
            if isMark s then none else
            if o + len * i.size ≤ cs.length then match rowLike r2 ((cs.drop o).take (len * i.size)) with
              | some r1 => match r1.app S r2 with
                | some r3 =>
                  if isUnk cap then (if cap = unk i.size then some [⟨some (S.nbeq m 0 = true), some ob, s, h⟩,
                    ⟨some (S.nbeq m 0 = false), some (ob ∧ sizeOk S (S.nadd len m) i.bytes ∧ S.nlt 1 (S.nmul (S.nadd len m) i.size)), mk (.slice (some ⟨h.next, 0, none⟩) (S.nadd len m) cap), (h.put b none).push (.row r3 false)⟩] else none)
                  else if cap = len then some [⟨some (S.nbeq m 0 = true), some ob, s, h⟩,
                    ⟨some (S.nbeq m 0 = false), some (ob ∧ sizeOk S (S.nadd len m) i.bytes), mk (.slice (some ⟨h.next, 0, none⟩) (S.nadd len m) (unk i.size)), h.push (.row r3 false)⟩] else none
                | none => none
              | none => none
            else none
          | _ => none
        | _, _ => none
      else none
    | _, _ => none
  | _ => none

/-- A store into a row. -/
def symStore (P : Program) (t : TypeId) (a x : Value) (h : Hp) : Option (List Alt) :=
  match den a with
  | .pointer (some ⟨b, o, none⟩) => match szA P t, h.get b with
    | some n, some (.row r false) => match r, denD x with
      | .ints k xs, .int k' m => if n = 1 ∧ k = k' then some [⟨none, some (S.nlt o (S.len xs)), undef, h.put b (some (.row (.ints k (S.set xs o m)) false))⟩] else none
      | .bools xs, .bool m => if n = 1 then some [⟨none, some (S.nlt o (S.len xs)), undef, h.put b (some (.row (.bools (S.set xs o m)) false))⟩] else none
      | .strs xs, .string m => if n = 1 then some [⟨none, some (S.nlt o (S.len xs)), undef, h.put b (some (.row (.strs (S.set xs o m)) false))⟩] else none
      | .pairs xs, .agg cs => match cs.toList with
        | [.string u, .string v] => if n = 2 then some [⟨none, some (S.neq (S.nmod o 2) 0 ∧ S.nlt (S.ndiv o 2) (S.len xs)), undef, h.put b (some (.row (.pairs (S.set xs (S.ndiv o 2) (u, v))) false))⟩] else none
        | _ => none
      | _, _ => none
    | _, _ => none
  | _ => none

/-- A row's part laid over. -/
def Row.lay : Row → Nat → Nat → Row → Option Row
  | .ints k xs, o, n, .ints k' ys => if k = k' then some (.ints k (S.app (S.take o xs) (S.app (S.take n ys) (S.drop (S.nadd o n) xs)))) else none
  | .bools xs, o, n, .bools ys => some (.bools (S.app (S.take o xs) (S.app (S.take n ys) (S.drop (S.nadd o n) xs))))
  | .strs xs, o, n, .strs ys => some (.strs (S.app (S.take o xs) (S.app (S.take n ys) (S.drop (S.nadd o n) xs))))
  | _, _, _, _ => none
def Row.many : Row → Nat
  | .ints _ xs => S.len xs
  | .bools xs => S.len xs
  | .strs xs => S.len xs
  | .pairs xs => S.len xs
  | .vals _ xs => S.len xs
/-- Copying. -/
def symCopy (P : Program) (dt xt : TypeId) (d x : Value) (h : Hp) : Option (List Alt) :=
  match P.underlying dt with
  | some (.slice e) => match szA P e with
    | some 1 => match P.underlying xt with
      | some (.int _) => none
      | _ => match symSrc S P 1 xt x h, den d with
        | some (.row ob m r2), .slice (some ⟨b, o, none⟩) len _ => match h.get b with
          | some (.cells cs false) => match r2 with
            | .ints k xs => if m = len ∧ o + len ≤ cs.length ∧ isMark d = false then
                one h ob (goInt len) |>.map (List.map fun a => { a with h := h.put b (some (.cells (spliceL cs o ((List.range len).map fun i => mk (.int k (S.get 0 xs i)))) false)) })
              else none
            | _ => none
          | some (.row r1 false) => match r1.lay S o (S.nmin m len) r2 with
            | some r3 => one h (ob ∧ S.nle (S.nadd o len) (r1.many S)) (mk (.int .i64 (S.int (S.nmin m len)))) |>.map (List.map fun a => { a with h := h.put b (some (.row r3 false)) })
            | none => none
          | _ => none
        | _, _ => none
    | _ => none
  | _ => none

def symE (P : Program) (ρ : Operand → Value) (o : Oper) (h : Hp) : Option (List Alt) :=
  match o.op with
  | .store t a x => symStore S P t (ρ a) (ρ x) h
  | .call { callee := .builtin .copy, args, argTypes } => match argTypes.toList, args.toList with
    | [dt, xt], [d, x] => symCopy S P dt xt (ρ d) (ρ x) h
    | _, _ => none
  | .call { callee := .builtin .append, args, argTypes } => match argTypes.toList, args.toList with
    | [st, xt], [s, x] => symApp S P st xt (ρ s) (ρ x) h
    | _, _ => none
  | _ => none

/-- A text as bytes. -/
def symN (P : Program) (ρ : Operand → Value) (o : Oper) : Option (Blk × (Nat → Value)) :=
  match o.op with
  | .convert src dst x => if isMark (ρ x) then match P.underlying src, P.underlying dst, den (ρ x) with
    | some .string, some (.slice e), .string s => match P.underlying e with
      | some (.int .u8) => some (.row (.ints .u8 (S.sbytes s)) false, fun b => mk (.slice (some ⟨b, 0, none⟩) (S.slen s) (unk 1)))
      | _ => none
    | _, _, _ => none
    else none
  | _ => none
/-- A row of zeroes of unknown length. -/
def symM (P : Program) (ρ : Operand → Value) (o : Oper) (h : Hp) : Option (List Alt) :=
  match o.op with
  | .makeSlice t l c => match P.underlying t with
    | some (.slice e) => match zeroA P e, P.info? e, den (ρ l), den (ρ c) with
      | some z, some i, .int _ l, .int _ c =>
        if i.size = 1 then match (match z.cells.toList with
          | [.int k 0] => some (Row.ints k (S.rep (S.nat l) 0))
          | [.bool false] => some (Row.bools (S.rep (S.nat l) false))
          | [.string s] => if s.size = 0 then some (Row.strs (S.rep (S.nat l) s)) else none
          | _ => none) with
          | some r => some [⟨none, some (S.ieq c l ∧ S.ilt 0 l ∧ S.ilt l 4611686018427387904 ∧ S.ile (S.mul i.bytes l) 140737488355328), mk (.slice (some ⟨h.next, 0, none⟩) (S.nat l) (unk 1)), h.push (.row r false)⟩]
          | none => none
        else none
      | _, _, _, _ => none
    | _ => none
  | _ => none
end

section
variable {P : Program}

theorem denD_slice {v : Value} {a : Option Addr} {n k : Nat} (h : den v = .slice a n k) : denD v = .slice a n k := by
  unfold denD
  split
  · rename_i cs; unfold den at h; cases h
  · exact h
theorem denD_ptr {v : Value} {a : Option Addr} (h : den v = .pointer a) : denD v = .pointer a := by
  unfold denD
  split
  · rename_i cs; unfold den at h; cases h
  · exact h
theorem denD_str {v : Value} {a : ByteArray} (h : den v = .string a) : denD v = .string a := by
  unfold denD
  split
  · rename_i cs; unfold den at h; cases h
  · exact h

theorem stepE_sem {o : Oper} {s : St} {v raw : Value} {h' hv' : Hp} (he : isEff P o = true) (hs : stepE P (fun x => denD (evA s.tmps x)) o s.h.view = some (raw, hv')) (hm : Marks v raw) (hn : hv'.next = h'.next)
    (hg : ∀ b, hv'.get b = (h'.get b).map Blk.view) (hk : ∀ {μ : Mu} {ρ' : Operand → Value}, OpR μ (evA s.tmps) ρ' o.op.operands.toList → Keeps μ s.h h') : StepS P o s v h' := by
  have hnx : s.h.next ≤ h'.next := by rw [← hn]; exact stepE_next (h := s.h.view) hs
  refine .E he hnx fun {μ base w a K Q} hr hrel hf hK => ?_
  unfold Oper.wp
  obtain ⟨w1, μ1, h1⟩ := simE hs hr.denD hrel.ofView (fun hlt => hf s.h.next (Nat.le_refl _) (by rw [← hn]; exact hlt))
  have conv : ∀ {v' : Value} {w' : World} {μ' : Mu}, Out μ base s.h.view w raw hv' v' w' μ' → Out μ base s.h w v h' v' w' μ' := fun ho =>
    ⟨hm.vr ho.val, ho.sim.unview hg, hnx, fun b hb => by rw [← hn]; exact ho.dom b hb, hk hr⟩
  rcases h1 with ⟨h1, h2, rfl⟩ | ⟨v', w', μ', h1, h2⟩
  · rw [h2]
    have hv : v = undef := by
      rcases hm with h | ⟨_, h⟩
      · exact h
      · simp [undef, markable] at h
    subst hv
    exact hK _ w1 μ1 (conv h1)
  · rw [h2]; exact hK v' w' μ' (conv h1)

theorem sub_view {b o n : Nat} {h : Hp} {r : Row} (hrow : h.view.row b = some r.cells) (hs : (r.sub std o n).1) : h.view.cells b o (n * r.esz) = some (r.sub std o n).2.cells := by
  obtain ⟨h1, h2, _⟩ := sub_spec hs
  unfold Hp.cells
  rw [hrow]
  simp only [h2, if_true, h1]
theorem row_row {h : Hp} {b : Nat} {r : Row} {ro : Bool} (hb : h.get b = some (.row r ro)) : h.view.row b = some r.cells := by
  unfold Hp.row
  rw [h.get_view, hb]
  simp only [Option.map_some, view_row, row_den]

theorem sbytes_val (s : ByteArray) : (Row.ints .u8 (std.sbytes s)).cells = valBytes s := by
  show (List.map _ (List.map _ _)) = _
  rw [List.map_map]; rfl

theorem rowOf_row {h : Hp} {b sz : Nat} {cs : List Value} {ro : Bool} {r : Row} (hb : h.get b = some (.cells cs ro)) (hr : rowOf sz cs = some r) : h.view.row b = some r.cells := by
  unfold Hp.row
  rw [h.get_view, hb]
  simp only [Option.map_some, view_cells, rowOf_spec hr]

theorem src_row {sz : Nat} {xt : TypeId} {zero : List Value} {x : Value} {h : Hp} {ob : Prop} {m : Nat} {r : Row} (e : symSrc std P sz xt x h = some (.row ob m r)) (hob : ob) :
    sourceA P sz xt zero (denD x) h.view = some (m, r.cells) ∧ r.cells.length = m * sz := by
  unfold symSrc at e
  split at e
  · cases e
  · rename_i el b o n k hu hx
    rw [denD_slice hx]
    split at e
    · rename_i r0 ro hb
      split at e
      · rename_i hsz
        simp only [Option.some.injEq, SrcX.row.injEq] at e
        obtain ⟨rfl, rfl, rfl⟩ := e
        subst hsz
        unfold sourceA
        rw [hu]
        simp only [sub_view (row_row hb) hob]
        exact ⟨trivial, (sub_spec hob).2.2⟩
      · cases e
    · rename_i cs ro hb
      split at e
      · split at e
        · rename_i r0 hr0
          split at e
          · rename_i hsz
            simp only [Option.some.injEq, SrcX.row.injEq] at e
            obtain ⟨rfl, rfl, rfl⟩ := e
            subst hsz
            unfold sourceA
            rw [hu]
            simp only [sub_view (rowOf_row hb hr0) hob]
            exact ⟨trivial, (sub_spec hob).2.2⟩
          · cases e
        · cases e
      · split at e <;> cases e
    · cases e
  · rename_i s hu hx
    rw [denD_str hx]
    split at e
    · rename_i hsz
      split at e
      · simp only [Option.some.injEq, SrcX.row.injEq] at e
        obtain ⟨rfl, rfl, rfl⟩ := e
        subst hsz
        unfold sourceA
        rw [hu]
        simp only [if_true, sbytes_val]
        refine ⟨rfl, ?_⟩
        unfold valBytes; rw [List.length_map, Nat.mul_one]; rfl
      · cases e
    · cases e
  · cases e

theorem src_conc {sz : Nat} {xt : TypeId} {zero : List Value} {x : Value} {h : Hp} {m : Nat} {cs : List Value} (e : symSrc std P sz xt x h = some (.conc m cs)) :
    sourceA P sz xt zero (denD x) h.view = some (m, cs.map den) ∧ cs.length = m * sz := by
  unfold symSrc at e
  split at e
  · rename_i el hu hx
    rw [denD_slice hx]
    simp only [Option.some.injEq, SrcX.conc.injEq] at e
    obtain ⟨rfl, rfl⟩ := e
    unfold sourceA
    rw [hu]
    simp
  · rename_i el b o n k hu hx
    rw [denD_slice hx]
    split at e
    · split at e <;> cases e
    · rename_i cs0 ro hb
      split at e
      · split at e
        · split at e <;> cases e
        · cases e
      · split at e
        · rename_i hl
          simp only [Option.some.injEq, SrcX.conc.injEq] at e
          obtain ⟨rfl, rfl⟩ := e
          unfold sourceA
          rw [hu]
          have hc : h.view.cells b o (n * sz) = some (((cs0.drop o).take (n * sz)).map den) := by
            unfold Hp.cells Hp.row
            rw [h.get_view, hb]
            simp only [Option.map_some, view_cells, List.length_map, hl, if_true, List.map_take, List.map_drop]
          simp only [hc]
          refine ⟨trivial, ?_⟩
          rw [List.length_take, List.length_drop]; omega
        · cases e
    · cases e
  · rename_i s hu hx
    rw [denD_str hx]
    split at e
    · rename_i hsz
      split at e
      · cases e
      · simp only [Option.some.injEq, SrcX.conc.injEq] at e
        obtain ⟨rfl, rfl⟩ := e
        subst hsz
        unfold sourceA
        rw [hu]
        have : (valBytes s).map den = valBytes s := by rw [← sbytes_val, row_den]
        simp only [if_true, this]
        refine ⟨trivial, ?_⟩
        unfold valBytes; rw [List.length_map, Nat.mul_one]
    · cases e
  · cases e

theorem app_spec {r1 r2 r3 : Row} (h : r1.app std r2 = some r3) : r3.cells = r1.cells ++ r2.cells := by
  unfold Row.app at h
  split at h
  · split at h
    · rename_i hk
      subst hk
      simp only [Option.some.injEq] at h; subst h
      exact List.map_append
    · cases h
  · simp only [Option.some.injEq] at h; subst h; exact List.map_append
  · simp only [Option.some.injEq] at h; subst h; exact List.map_append
  · simp only [Option.some.injEq] at h; subst h; exact pairs_app _ _
  · cases h

theorem push_view {h : Hp} {hv : Hp} {r : Row} {cs : List Value} (hn : hv.next = h.next) (hg : ∀ b, hv.get b = (h.get b).map Blk.view) (hcs : cs = r.cells) (b : Nat) :
    (hv.push (.cells cs false)).get b = ((h.push (.row r false)).get b).map Blk.view := by
  rw [Hp.get_push, Hp.get_push, hn]
  split
  · simp only [Option.map_some, view_row, row_den, hcs]
  · exact hg b
theorem put_none_view {h : Hp} {b : Nat} (hb : b < h.next) (c : Nat) : (h.view.put b none).get c = ((h.put b none).get c).map Blk.view := by
  rw [Hp.get_put _ _ _ _ (by exact hb), Hp.get_put _ _ _ _ hb]
  split
  · rfl
  · exact h.get_view c

theorem nb_true {m : Nat} (h : std.nbeq m 0 = true) : m = 0 := by
  have : (m == 0) = true := h
  simpa using this
theorem nb_false {m : Nat} (h : std.nbeq m 0 = false) : m ≠ 0 := by
  have : (m == 0) = false := h
  simpa using this

theorem keep_slice {μ : Mu} {h : Hp} {v v' : Value} {b o n k : Nat} {x : Blk} (hv : VR μ v v') (hd : den v = .slice (some ⟨b, o, none⟩) n k) (hb : b < h.next) : Keeps μ h ((h.put b none).push x) := by
  have h1 := hv.den
  rw [hd] at h1
  have hp : ∃ p, μ b = some p := by
    rcases h1.inv_slice with ⟨p, _, hp, _⟩ | ⟨_, _, _, hp, _⟩
    · exact ⟨p, hp⟩
    · exact hp
  obtain ⟨p, hp⟩ := hp
  intro c hc hn
  rw [Hp.get_push, if_neg (by simp; omega)]
  exact Keeps.put hp hb c hc hn

set_option maxHeartbeats 1000000 in
theorem symApp_ok {o : Oper} {st : St} {ty xt : TypeId} {s x : Operand} {args : Array Operand} {argTypes : Array TypeId} {alts : List Alt} (ho : o.op = .call { callee := .builtin .append, args, argTypes })
    (ht : argTypes.toList = [ty, xt]) (ha : args.toList = [s, x]) (e : symApp std P ty xt (evA st.tmps s) (evA st.tmps x) st.h = some alts) : AltsOk alts fun a => StepS P o st a.v a.h := by
  have hE : isEff P o = true := by unfold isEff; rw [ho]; rfl
  have mkE : ∀ {v raw : Value} {h' hv' : Hp}, appendA P ty xt (denD (evA st.tmps s)) (denD (evA st.tmps x)) st.h.view = some (raw, hv') → Marks v raw → hv'.next = h'.next → (∀ b, hv'.get b = (h'.get b).map Blk.view) →
      (∀ {μ : Mu} {v' : Value}, VR μ (evA st.tmps s) v' → Keeps μ st.h h') → StepS P o st v h' := by
    intro v raw h' hv' h1 h2 h3 h4 h5
    refine stepE_sem hE (raw := raw) (hv' := hv') ?_ h2 h3 h4 fun {μ ρ'} hr => h5 (hr s ?_)
    · unfold stepE
      rw [ho]
      simp only [ht, ha, List.map_cons, List.map_nil]
      exact h1
    · rw [ho]; simp [Op.operands, Call.operands, ha]
  unfold symApp at e
  split at e
  case h_2 => cases e
  rename_i el hu
  split at e
  case h_2 => cases e
  rename_i i z hi hz
  split at e
  case isFalse => cases e
  rename_i hsz
  -- nothing appended
  have same : ∀ {m : Nat} {cs : List Value}, sourceA P i.size xt z.cells.toList (denD (evA st.tmps x)) st.h.view = some (m, cs) → m = 0 → (∃ a n k, den (evA st.tmps s) = .slice a n k) → StepS P o st (evA st.tmps s) st.h := by
    intro m cs hsrc hm ⟨a, n, k, hs⟩
    refine mkE (raw := .slice a n k) (hv' := st.h.view) ?_ ?_ rfl st.h.get_view fun _ => Keeps.refl _ _
    · unfold appendA
      rw [hu]
      simp only [hi, hz, hsz, and_self, if_true, hsrc, hm, denD_slice hs]
    · rcases den_cases (evA st.tmps s) with e | ⟨w, e, hm', e'⟩
      · rw [← hs, e]; exact .inl rfl
      · rw [e', ] at hs; rw [e, hs]; exact .inr ⟨rfl, rfl⟩
  split at e
  · -- onto nil
    rename_i ob m r2 hsrc hs
    simp only [Option.some.injEq] at e; subst e
    refine ⟨?_, fun a ha' hc hob => ?_⟩
    · cases hb : std.nbeq m 0
      · exact ⟨_, List.mem_cons_of_mem _ (List.mem_singleton.2 rfl), rfl⟩
      · exact ⟨_, List.mem_cons_self, rfl⟩
    · rcases List.mem_cons.1 ha' with rfl | ha'
      · obtain ⟨h1, h2⟩ := src_row (zero := z.cells.toList) hsrc hob
        have := same h1 (nb_true hc) ⟨_, _, _, hs⟩
        refine mkE (raw := .slice none 0 0) (hv' := st.h.view) ?_ (.inl rfl) rfl st.h.get_view fun _ => Keeps.refl _ _
        unfold appendA
        rw [hu]
        simp only [hi, hz, hsz, and_self, if_true, h1, nb_true hc, denD_slice hs]
      · rw [List.mem_singleton.1 ha'] at hc hob ⊢
        obtain ⟨h0, hl1, hl2⟩ := hob
        have hl1 : m * i.bytes ≤ 140737488355328 := hl1
        have hl2 : m ≤ 4611686018427387904 := hl2
        obtain ⟨h1, h2⟩ := src_row (zero := z.cells.toList) hsrc h0
        refine mkE (raw := .slice (some ⟨st.h.next, 0, none⟩) m (unk i.size)) (hv' := st.h.view.push (.cells r2.cells false)) ?_ (.inr ⟨rfl, rfl⟩) rfl (push_view rfl st.h.get_view rfl) fun _ => Keeps.push _ _ _
        unfold appendA
        rw [hu]
        simp only [hi, hz, hsz, and_self, if_true, h1, nb_false hc, if_false, denD_slice hs, hl1, hl2]
        rfl
  · -- no elements
    rename_i cs a n k hsrc hs
    obtain ⟨h1, _⟩ := src_conc (zero := z.cells.toList) hsrc
    exact alts_pure e (same h1 rfl ⟨_, _, _, hs⟩)
  · -- elements, onto a row
    rename_i m cs b o' len cap _ hsrc hs
    split at e
    case h_2 => cases e
    rename_i r hb
    split at e
    case isFalse => cases e
    rename_i hc
    obtain ⟨hesz, hcap, hm⟩ := hc
    split at e
    case h_2 => cases e
    rename_i r2 hr2
    split at e
    case h_2 => cases e
    rename_i r3 hr3
    unfold one at e
    simp only [Option.map_some, List.map_cons, List.map_nil, Option.some.injEq] at e; subst e
    refine ⟨⟨_, List.mem_singleton.2 rfl, trivial⟩, fun a ha' _ hob => ?_⟩
    rw [List.mem_singleton.1 ha'] at hob ⊢
    obtain ⟨h0, ⟨hl1, hl2⟩, hl3⟩ := hob
    have hl1 : (len + m) * i.bytes ≤ 140737488355328 := hl1
    have hl2 : len + m ≤ 4611686018427387904 := hl2
    have hl3 : 1 < (len + m) * i.size := hl3
    obtain ⟨h1, h2⟩ := src_conc (zero := z.cells.toList) hsrc
    obtain ⟨h3, h4, h5⟩ := sub_spec h0
    rw [hesz] at h3 h4 h5
    have hbn := Hp.lt_of_get hb
    refine mkE (raw := .slice (some ⟨st.h.next, 0, none⟩) (len + m) cap) (hv' := (st.h.view.put b none).push (.cells ((r.cells.drop o').take (len * i.size) ++ cs.map den) false)) ?_ (.inr ⟨rfl, rfl⟩) rfl
      (push_view rfl (put_none_view hbn) (by rw [h3, app_spec hr3, rowLike_spec hr2])) fun hv => keep_slice hv hs hbn
    unfold appendA
    rw [hu]
    have hg : st.h.view.get b = some (.cells r.cells false) := by rw [st.h.get_view, hb]; simp only [Option.map_some, view_row, row_den]
    have hne : len * i.size + (cs.map den).length ≠ 1 := by rw [List.length_map, h2, ← Nat.add_mul]; omega
    simp only [hi, hz, hsz, and_self, if_true, h1, show ¬ m = 0 from by omega, if_false, denD_slice hs, hl1, hl2, hg, hcap, isUnk_unk]
    rw [if_pos ⟨trivial, h4, hne⟩]
    rfl
  · -- a row, onto something
    rename_i ob m r2 b o' len cap hsrc hs
    have two : ∀ {ob2 : Prop} {v2 : Value} {h2 : Hp}, (m ≠ 0 → ob2 → StepS P o st v2 h2) → (ob2 → ob) → some [(⟨some (std.nbeq m 0 = true), some ob, evA st.tmps s, st.h⟩ : Alt), ⟨some (std.nbeq m 0 = false), some ob2, v2, h2⟩] = some alts → AltsOk alts fun a => StepS P o st a.v a.h := by
      intro ob2 v2 h2 hk _ e
      simp only [Option.some.injEq] at e; subst e
      refine ⟨?_, fun a ha' hc hob => ?_⟩
      · cases hb : std.nbeq m 0
        · exact ⟨_, List.mem_cons_of_mem _ (List.mem_singleton.2 rfl), rfl⟩
        · exact ⟨_, List.mem_cons_self, rfl⟩
      · rcases List.mem_cons.1 ha' with rfl | ha'
        · obtain ⟨h1, _⟩ := src_row (zero := z.cells.toList) hsrc hob
          exact same h1 (nb_true hc) ⟨_, _, _, hs⟩
        · rw [List.mem_singleton.1 ha'] at hc hob ⊢
          exact hk (nb_false hc) hob
    split at e
    · rename_i r hb
      split at e
      case isFalse => cases e
      rename_i hc
      obtain ⟨hesz, hcap⟩ := hc
      split at e
      case h_2 => cases e
      rename_i r3 hr3
      refine two (fun hm hob => ?_) (fun h => h.1) e
      obtain ⟨hob, h0, ⟨hl1, hl2⟩, hl3⟩ := hob
      have hl1 : (len + m) * i.bytes ≤ 140737488355328 := hl1
      have hl2 : len + m ≤ 4611686018427387904 := hl2
      have hl3 : 1 < (len + m) * i.size := hl3
      obtain ⟨h1, h2⟩ := src_row (zero := z.cells.toList) hsrc hob
      obtain ⟨h3, h4, h5⟩ := sub_spec h0
      rw [hesz] at h3 h4 h5
      have hbn := Hp.lt_of_get hb
      refine mkE (raw := .slice (some ⟨st.h.next, 0, none⟩) (len + m) cap) (hv' := (st.h.view.put b none).push (.cells ((r.cells.drop o').take (len * i.size) ++ r2.cells) false)) ?_ (.inr ⟨rfl, rfl⟩) rfl
        (push_view rfl (put_none_view hbn) (by rw [h3, app_spec hr3])) fun hv => keep_slice hv hs hbn
      unfold appendA
      rw [hu]
      have hg : st.h.view.get b = some (.cells r.cells false) := by rw [st.h.get_view, hb]; simp only [Option.map_some, view_row, row_den]
      have hne : len * i.size + r2.cells.length ≠ 1 := by rw [h2, ← Nat.add_mul]; omega
      simp only [hi, hz, hsz, and_self, if_true, h1, hm, if_false, denD_slice hs, hl1, hl2, hg, hcap, isUnk_unk]
      rw [if_pos ⟨trivial, h4, hne⟩]
      rfl
    · rename_i cs hb
      split at e
      case isTrue => cases e
      split at e
      case isFalse => cases e
      rename_i hlen
      split at e
      case h_2 => cases e
      rename_i r1 hr1
      split at e
      case h_2 => cases e
      rename_i r3 hr3
      have hg : st.h.view.get b = some (.cells (cs.map den) false) := by rw [st.h.get_view, hb]; rfl
      have hcell : (((cs.map den).drop o').take (len * i.size)) = r1.cells := by
        rw [← List.map_drop, ← List.map_take]; exact rowLike_spec hr1
      have hbn := Hp.lt_of_get hb
      split at e
      · rename_i hun
        split at e
        case isFalse => cases e
        rename_i hcap
        refine two (fun hm hob => ?_) (fun h => h.1) e
        obtain ⟨hob, ⟨hl1, hl2⟩, hl3⟩ := hob
        have hl1 : (len + m) * i.bytes ≤ 140737488355328 := hl1
        have hl2 : len + m ≤ 4611686018427387904 := hl2
        have hl3 : 1 < (len + m) * i.size := hl3
        obtain ⟨h1, h2⟩ := src_row (zero := z.cells.toList) hsrc hob
        refine mkE (raw := .slice (some ⟨st.h.next, 0, none⟩) (len + m) cap) (hv' := (st.h.view.put b none).push (.cells (((cs.map den).drop o').take (len * i.size) ++ r2.cells) false)) ?_ (.inr ⟨rfl, rfl⟩) rfl
          (push_view rfl (put_none_view hbn) (by rw [hcell, app_spec hr3])) fun hv => keep_slice hv hs hbn
        unfold appendA
        rw [hu]
        have hne : len * i.size + r2.cells.length ≠ 1 := by rw [h2, ← Nat.add_mul]; omega
        simp only [hi, hz, hsz, and_self, if_true, h1, hm, if_false, denD_slice hs, hl1, hl2, hg, hcap, isUnk_unk]
        rw [if_pos ⟨trivial, by rw [List.length_map]; exact hlen, hne⟩]
        rfl
      · rename_i hun
        split at e
        case isFalse => cases e
        rename_i hcap
        refine two (fun hm hob => ?_) (fun h => h.1) e
        obtain ⟨hob, hl1, hl2⟩ := hob
        have hl1 : (len + m) * i.bytes ≤ 140737488355328 := hl1
        have hl2 : len + m ≤ 4611686018427387904 := hl2
        obtain ⟨h1, h2⟩ := src_row (zero := z.cells.toList) hsrc hob
        refine mkE (raw := .slice (some ⟨st.h.next, 0, none⟩) (len + m) (unk i.size)) (hv' := st.h.view.push (.cells (((cs.map den).drop o').take (len * i.size) ++ r2.cells) false)) ?_ (.inr ⟨rfl, rfl⟩) rfl
          (push_view rfl st.h.get_view (by rw [hcell, app_spec hr3])) fun hv => Keeps.push _ _ _
        unfold appendA
        rw [hu]
        have hcells : st.h.view.cells b o' (len * i.size) = some (((cs.map den).drop o').take (len * i.size)) := by
          unfold Hp.cells Hp.row
          rw [hg]
          simp only [List.length_map, hlen, if_true]
        simp only [hi, hz, hsz, and_self, if_true, h1, hm, if_false, denD_slice hs, hl1, hl2, hun, Bool.false_eq_true, show ¬ (len + m ≤ cap) from by omega, hcells]
        rfl
    · cases e
  · cases e

theorem splice_one (cs : List Value) (o : Nat) (v : Value) : spliceL cs o [v] = cs.set o v := rfl
theorem pairs_set {xs : List (ByteArray × ByteArray)} {j : Nat} {u v : ByteArray} (h : j < xs.length) : spliceL (Row.pairs xs).cells (j * 2) [.string u, .string v] = (Row.pairs (xs.set j (u, v))).cells := by
  show ((Row.pairs xs).cells.set (j * 2) (.string u)).set (j * 2 + 1) (.string v) = _
  induction xs generalizing j with
  | nil => simp at h
  | cons x xs ih =>
    cases j with
    | zero => rfl
    | succ j =>
      rw [pairs_cons, show (j + 1) * 2 = j * 2 + 2 from by omega]
      show _ :: _ :: (((Row.pairs xs).cells.set (j * 2) (.string u)).set (j * 2 + 1) (.string v)) = _
      rw [ih (by simpa using h), List.set_cons_succ, pairs_cons]

theorem symStore_ok {o : Oper} {st : St} {t : TypeId} {a x : Operand} {alts : List Alt} (ho : o.op = .store t a x) (e : symStore std P t (evA st.tmps a) (evA st.tmps x) st.h = some alts) :
    AltsOk alts fun y => StepS P o st y.v y.h := by
  have hE : isEff P o = true := by unfold isEff; rw [ho]; rfl
  unfold symStore at e
  split at e
  case h_2 => cases e
  rename_i b o' ha
  split at e
  case h_2 => cases e
  rename_i n r hn hb
  have hbn := Hp.lt_of_get hb
  have hg : st.h.view.get b = some (.cells r.cells false) := by rw [st.h.get_view, hb]; simp only [Option.map_some, view_row, row_den]
  have mkE : ∀ {r' : Row} {cells : List Value}, (denD (evA st.tmps x)).cells.toList = cells → cells.length = n → o' + n ≤ r.cells.length → cells.all Value.oneCell' = true → spliceL r.cells o' cells = r'.cells →
      StepS P o st undef (st.h.put b (some (.row r' false))) := by
    intro r' cells h1 h2 h3 h4 h5
    refine stepE_sem hE (raw := undef) (hv' := st.h.view.put b (some (.cells (spliceL r.cells o' cells) false))) ?_ (.inl rfl) rfl (fun c => ?_) fun {μ ρ'} hr => ?_
    · unfold stepE
      rw [ho]
      simp only [storeA, denD_ptr ha, hn, hg]
      rw [if_pos ⟨by rw [← Array.length_toList, h1, h2], h3, by rw [h1]; exact h4⟩, h1]
      rfl
    · rw [Hp.get_put _ _ _ _ (by exact hbn), Hp.get_put _ _ _ _ hbn]
      split
      · simp only [Option.map_some, view_row, row_den, h5]
      · exact st.h.get_view c
    · have h1 := (hr a (by rw [ho]; simp [Op.operands])).den
      rw [ha] at h1
      obtain ⟨p, hp, _⟩ := h1.inv_ptr
      exact Keeps.put hp hbn
  have fin : ∀ {ob : Prop} {r' : Row}, (ob → StepS P o st undef (st.h.put b (some (.row r' false)))) → some [(⟨none, some ob, undef, st.h.put b (some (.row r' false))⟩ : Alt)] = some alts → AltsOk alts fun y => StepS P o st y.v y.h := by
    intro ob r' hk e
    simp only [Option.some.injEq] at e; subst e
    exact ⟨⟨_, List.mem_singleton.2 rfl, trivial⟩, fun y hy _ hob => by rw [List.mem_singleton.1 hy] at hob ⊢; exact hk hob⟩
  split at e
  · rename_i k xs k' m hx
    split at e
    case isFalse => cases e
    rename_i hc
    obtain ⟨rfl, rfl⟩ := hc
    refine fin (fun hob => ?_) e
    have hob : o' < xs.length := hob
    refine mkE (cells := [.int k m]) (by rw [hx]; rfl) rfl (by show _ ≤ (xs.map _).length; rw [List.length_map]; omega) rfl ?_
    show (xs.map (Value.int k)).set o' (.int k m) = (xs.set o' m).map _
    rw [List.map_set]
  · rename_i xs m hx
    split at e
    case isFalse => cases e
    rename_i hc
    subst hc
    refine fin (fun hob => ?_) e
    have hob : o' < xs.length := hob
    refine mkE (cells := [.bool m]) (by rw [hx]; rfl) rfl (by show _ ≤ (xs.map _).length; rw [List.length_map]; omega) rfl ?_
    show (xs.map Value.bool).set o' (.bool m) = (xs.set o' m).map _
    rw [List.map_set]
  · rename_i xs m hx
    split at e
    case isFalse => cases e
    rename_i hc
    subst hc
    refine fin (fun hob => ?_) e
    have hob : o' < xs.length := hob
    refine mkE (cells := [.string m]) (by rw [hx]; rfl) rfl (by show _ ≤ (xs.map _).length; rw [List.length_map]; omega) rfl ?_
    show (xs.map Value.string).set o' (.string m) = (xs.set o' m).map _
    rw [List.map_set]
  · rename_i xs cs hx
    split at e
    case h_2 => cases e
    rename_i u v hcs
    split at e
    case isFalse => cases e
    rename_i hc
    subst hc
    refine fin (fun hob => ?_) e
    obtain ⟨h0, h1⟩ := hob
    have h0 : o' % 2 = 0 := h0
    have h1 : o' / 2 < xs.length := h1
    refine mkE (cells := [.string u, .string v]) (by rw [hx]; exact hcs) rfl (by rw [pairs_len]; omega) rfl ?_
    have := pairs_set (u := u) (v := v) h1
    rw [show o' / 2 * 2 = o' from by omega] at this
    exact this
  · cases e

theorem splice_app : ∀ (vs l : List Value) (o : Nat), o + vs.length ≤ l.length → spliceL l o vs = l.take o ++ vs ++ l.drop (o + vs.length)
  | [], l, o, _ => by simp [spliceL]
  | v :: r, l, o, h => by
    simp only [List.length_cons] at h
    unfold spliceL
    rw [splice_app r (l.set o v) (o + 1) (by rw [List.length_set]; omega), List.take_set, List.drop_set]
    rw [if_pos (by omega), List.length_cons, show o + 1 + r.length = o + (r.length + 1) by omega]
    have h1 : (l.take (o + 1)).set o v = l.take o ++ [v] := by
      refine List.ext_getElem? fun i => ?_
      rw [List.getElem?_set, List.length_take]
      by_cases e : o = i
      · subst e
        rw [if_pos rfl, if_pos (by omega), List.getElem?_append_right (by rw [List.length_take]; omega), List.length_take, show o - min o l.length = 0 by omega]; rfl
      · rw [if_neg e]
        by_cases e2 : i < o
        · rw [List.getElem?_append_left (by rw [List.length_take]; omega), List.getElem?_take_of_lt e2, List.getElem?_take_of_lt (by omega)]
        · rw [List.getElem?_eq_none (by rw [List.length_take]; omega), List.getElem?_eq_none (by rw [List.length_append, List.length_take, List.length_singleton]; omega)]
    rw [h1, List.append_assoc, List.append_assoc, List.append_assoc]; rfl
theorem splice_map (f : Value → Value) : ∀ (vs l : List Value) (o : Nat), (spliceL l o vs).map f = spliceL (l.map f) o (vs.map f)
  | [], l, o => rfl
  | v :: r, l, o => by
    show (spliceL (l.set o v) (o + 1) r).map f = spliceL ((l.map f).set o (f v)) (o + 1) (r.map f)
    rw [splice_map f r, List.map_set]
theorem lay_spec {r1 r2 r3 : Row} {o n : Nat} (h : r1.lay std o n r2 = some r3) (hn : n ≤ r2.cells.length) (ho : o + n ≤ r1.cells.length) : spliceL r1.cells o (r2.cells.take n) = r3.cells := by
  rw [splice_app _ _ _ (by rw [List.length_take]; omega), List.length_take, Nat.min_eq_left hn]
  unfold Row.lay at h
  split at h
  · split at h
    · rename_i hk
      subst hk
      simp only [Option.some.injEq] at h; subst h
      simp only [Row.cells, ← List.map_take, ← List.map_drop, ← List.map_append, List.append_assoc]; rfl
    · cases h
  · simp only [Option.some.injEq] at h; subst h
    simp only [Row.cells, ← List.map_take, ← List.map_drop, ← List.map_append, List.append_assoc]; rfl
  · simp only [Option.some.injEq] at h; subst h
    simp only [Row.cells, ← List.map_take, ← List.map_drop, ← List.map_append, List.append_assoc]; rfl
  · cases h
theorem lay_many {r1 r2 r3 : Row} {o n : Nat} (h : r1.lay std o n r2 = some r3) : r1.many std = r1.cells.length := by
  unfold Row.lay at h
  split at h
  · exact (List.length_map ..).symm
  · exact (List.length_map ..).symm
  · exact (List.length_map ..).symm
  · cases h
theorem symCopy_ok {o : Oper} {st : St} {dt xt : TypeId} {d x : Operand} {args : Array Operand} {argTypes : Array TypeId} {alts : List Alt} (ho : o.op = .call { callee := .builtin .copy, args, argTypes })
    (ht : argTypes.toList = [dt, xt]) (ha : args.toList = [d, x]) (e : symCopy std P dt xt (evA st.tmps d) (evA st.tmps x) st.h = some alts) : AltsOk alts fun a => StepS P o st a.v a.h := by
  have hE : isEff P o = true := by unfold isEff; rw [ho]; rfl
  unfold symCopy at e
  split at e
  case h_2 => cases e
  rename_i el hu
  split at e
  case h_2 => cases e
  rename_i hsz
  split at e
  · cases e
  rename_i hni
  split at e
  case h_2 => cases e
  rename_i ob m r2 b o' len cap hsrc hd
  have mkE : ∀ {v raw : Value} {h' : Hp} {cs : List Value}, copyA P dt xt (denD (evA st.tmps d)) (denD (evA st.tmps x)) st.h.view = some (raw, st.h.view.put b (some (.cells cs false))) → Marks v raw → b < st.h.next → (∃ y, h' = st.h.put b (some y) ∧ y.view = .cells cs false) → StepS P o st v h' := by
    rintro v raw h' cs h1 h2 h3 ⟨y, rfl, hy⟩
    refine stepE_sem hE (raw := raw) (hv' := st.h.view.put b (some (.cells cs false))) ?_ h2 rfl (fun c => ?_) fun {μ ρ'} hr => ?_
    · unfold stepE
      rw [ho]
      simp only [ht, ha, List.map_cons, List.map_nil]
      exact h1
    · rw [Hp.get_put _ _ _ _ (by exact h3), Hp.get_put _ _ _ _ h3]
      split
      · simp only [Option.map_some, hy]
      · exact st.h.get_view c
    · have h4 := (hr d (by rw [ho]; simp [Op.operands, Call.operands, ha])).den
      rw [hd] at h4
      rcases h4.inv_slice with ⟨p, _, hp, _⟩ | ⟨_, _, _, ⟨p, hp⟩, _⟩
      · exact Keeps.put hp h3
      · exact Keeps.put hp h3
  have run : ∀ {cs : List Value}, ob → st.h.view.get b = some (.cells cs false) → o' + len ≤ cs.length → copyA P dt xt (denD (evA st.tmps d)) (denD (evA st.tmps x)) st.h.view = some (goInt ((min m len : Nat) : Int), st.h.view.put b (some (.cells (spliceL cs o' (r2.cells.take (min m len))) false))) := by
    intro cs hob hg hl
    obtain ⟨h1, h2⟩ := src_row (zero := []) hsrc hob
    unfold copyA
    rw [hu]
    simp only [hsz, h1, denD_slice hd, hg, Nat.mul_one, hl, if_true]
    have : min (m : Int) (len : Int) = ((min m len : Nat) : Int) := by omega
    rw [this]
  split at e
  · rename_i cs hb
    split at e
    case h_2 => cases e
    rename_i k xs
    split at e
    case isFalse => cases e
    rename_i hc
    obtain ⟨rfl, hlen, hmk⟩ := hc
    simp only [one, Option.map_some, List.map_cons, List.map_nil, Option.some.injEq] at e
    subst e
    refine ⟨⟨_, List.mem_singleton.2 rfl, trivial⟩, fun a ha' _ hob => ?_⟩
    rw [List.mem_singleton.1 ha'] at hob ⊢
    have hob : ob := hob
    obtain ⟨h1, h2⟩ := src_row (zero := []) hsrc hob
    have hg : st.h.view.get b = some (.cells (cs.map den) false) := by rw [st.h.get_view, hb]; rfl
    have hr := run hob hg (by rw [List.length_map]; exact hlen)
    rw [Nat.min_self] at hr
    have hxl : xs.length = m := by
      have : (xs.map (Value.int k)).length = m * 1 := h2
      rw [List.length_map] at this; omega
    refine mkE (raw := goInt m) hr (.inl rfl) (Hp.lt_of_get hb) ⟨_, rfl, ?_⟩
    show Blk.cells ((spliceL cs o' _).map den) false = _
    rw [splice_map]
    congr 2
    have : (Row.ints k xs).cells.take m = xs.map (Value.int k) := List.take_of_length_le (by show (xs.map _).length ≤ m; rw [List.length_map]; omega)
    rw [this, List.map_map]
    refine List.ext_getElem? fun i => ?_
    rw [List.getElem?_map, List.getElem?_map]
    by_cases hi : i < m
    · rw [List.getElem?_range hi, List.getElem?_eq_getElem (show i < xs.length by omega)]
      show some (Value.int k (xs.getD i 0)) = _
      rw [List.getD_eq_getElem?_getD, List.getElem?_eq_getElem (show i < xs.length by omega)]; rfl
    · rw [List.getElem?_eq_none (by rw [List.length_range]; omega), List.getElem?_eq_none (by omega)]; rfl
  · rename_i r1 hb
    split at e
    case h_2 => cases e
    rename_i r3 hr3
    simp only [one, Option.map_some, List.map_cons, List.map_nil, Option.some.injEq] at e
    subst e
    refine ⟨⟨_, List.mem_singleton.2 rfl, trivial⟩, fun a ha' _ hob => ?_⟩
    rw [List.mem_singleton.1 ha'] at hob ⊢
    obtain ⟨hob, hl⟩ := hob
    obtain ⟨h1, h2⟩ := src_row (zero := []) hsrc hob
    have hl : o' + len ≤ r1.cells.length := by rw [← lay_many hr3]; exact hl
    have hg : st.h.view.get b = some (.cells r1.cells false) := by rw [st.h.get_view, hb]; simp only [Option.map_some, view_row, row_den]
    refine mkE (raw := goInt ((min m len : Nat) : Int)) (run hob hg hl) (.inr ⟨rfl, rfl⟩) (Hp.lt_of_get hb) ⟨_, rfl, ?_⟩
    have hr3' : r1.lay std o' (min m len) r2 = some r3 := hr3
    rw [lay_spec hr3' (by rw [h2]; omega) (by omega)]
    simp only [view_row, row_den]
  · cases e

theorem symE_ok {o : Oper} {st : St} {alts : List Alt} (e : symE std P (evA st.tmps) o st.h = some alts) : AltsOk alts fun y => StepS P o st y.v y.h := by
  unfold symE at e
  split at e
  · rename_i ho
    exact symStore_ok ho e
  · rename_i ho
    split at e
    · rename_i ht ha
      exact symCopy_ok ho ht ha e
    · cases e
  · rename_i ho
    split at e
    · rename_i ht ha
      exact symApp_ok ho ht ha e
    · cases e
  · cases e

theorem Sim.swap {μ μ' : Mu} {base : Nat} {g g1 g2 : Gm} {w w' : World} (h : Sim μ base g w μ' g1 w') (hg : ∀ b x, g2 b = some x → ∃ y, g1 b = some y ∧ ownB y = ownB x ∧ ∀ p, BR μ' base w' p y → BR μ' base w' p x) :
    Sim μ base g w μ' g2 w' := by
  refine ⟨h.le, ⟨h.rel.size, fun b p x hb hx => ?_, fun b b' p p' x x' h1 h2 h3 h4 h5 h6 => ?_, fun c i a hc => ⟨(h.rel.frz c i a hc).1, fun b p x hb hx ho => ?_⟩⟩, h.fr, fun b p x hb hx => ?_, h.fz⟩
  · obtain ⟨y, hy, _, hbr⟩ := hg b x hx
    exact hbr p (h.rel.blk b p y hb hy)
  · obtain ⟨y, hy, ho, _⟩ := hg b x h3
    obtain ⟨y', hy', _, _⟩ := hg b' x' h4
    exact h.rel.inj b b' p p' y y' h1 h2 hy hy' h5 (by rw [ho]; exact h6)
  · obtain ⟨y, hy, ho', _⟩ := hg b x hx
    exact (h.rel.frz c i a hc).2 b p y hb hy (by rw [ho']; exact ho)
  · obtain ⟨y, hy, ho, _⟩ := hg b x hx
    rw [← ho]
    exact h.own b p y hb hy

theorem symN_ok {ρ : Operand → Value} {o : Oper} {x : Blk} {f : Nat → Value} (e : symN std P ρ o = some (x, f)) : kindOf P o.op = .N ∧ SemN P ρ o x f := by
  unfold symN at e
  split at e
  case h_2 => cases e
  rename_i src dst y ho
  split at e
  case isFalse => cases e
  split at e
  case h_2 => cases e
  rename_i el s hs hd hy
  split at e
  case h_2 => cases e
  rename_i he
  simp only [Option.some.injEq, Prod.mk.injEq] at e
  obtain ⟨rfl, rfl⟩ := e
  have hk : kindOf P o.op = .N := by rw [ho]; simp only [kindOf, hs, hd]
  refine ⟨hk, fun {μ base w ρ' g} hr hrel {b} hb => ?_⟩
  have hst : stepN P (fun x => den (ρ x)) o = some (.cells (valBytes s) false, fun b => .slice (some ⟨b, 0, none⟩) s.data.toList.length (unk 1)) := by
    unfold stepN
    rw [ho]
    simp only [hd, hy, he]
  obtain ⟨v', w', p, h1, h2, h3⟩ := simN hk hst hr.den hrel hb
  refine ⟨v', w', p, μ.z, h1, (show Marks (mk _) _ from .inr ⟨rfl, rfl⟩).vr h2, h3.swap fun c z hz => ?_⟩
  split at hz
  · rename_i hc
    simp only [Option.some.injEq] at hz; subst hz
    refine ⟨.cells (valBytes s) false, by simp [hc], rfl, fun p hp => ?_⟩
    rw [← sbytes_val] at hp
    exact hp
  · rename_i hc
    exact ⟨z, by simp [hc]; exact hz, rfl, fun _ h => h⟩
theorem rep_flat (n : Nat) (v : Value) : (List.replicate n [v]).flatten = List.replicate n v := by
  induction n with
  | zero => rfl
  | succ n ih => rw [List.replicate_succ, List.flatten_cons, ih]; rfl
theorem symM_ok {o : Oper} {st : St} {alts : List Alt} (e : symM std P (evA st.tmps) o st.h = some alts) : AltsOk alts fun a => StepS P o st a.v a.h := by
  unfold symM at e
  split at e
  case h_2 => cases e
  rename_i t l c ho
  split at e
  case h_2 => cases e
  rename_i el hu
  split at e
  case h_2 => cases e
  rename_i z i k1 ln k2 cn hz hi hl hc
  split at e
  case isFalse => cases e
  rename_i hsz
  split at e
  case h_2 => cases e
  rename_i r hr
  simp only [Option.some.injEq] at e; subst e
  refine ⟨⟨_, List.mem_singleton.2 rfl, trivial⟩, fun a ha' _ hob => ?_⟩
  rw [List.mem_singleton.1 ha'] at hob ⊢
  obtain ⟨h1, h2, h3, h4⟩ := hob
  have h1 : cn = ln := h1
  have h2 : 0 < ln := h2
  have h3 : ln < 4611686018427387904 := h3
  have h4 : (i.bytes : Int) * ln ≤ 140737488355328 := h4
  subst h1
  have hrow : z.cells.size = 1 ∧ (List.replicate cn.toNat z.cells.toList).flatten = r.cells := by
    split at hr
    · rename_i k hzc
      simp only [Option.some.injEq] at hr; subst hr
      refine ⟨by rw [← Array.length_toList, hzc]; rfl, ?_⟩
      rw [hzc, rep_flat]
      show _ = (List.replicate cn.toNat 0).map _
      rw [List.map_replicate]
    · rename_i hzc
      simp only [Option.some.injEq] at hr; subst hr
      refine ⟨by rw [← Array.length_toList, hzc]; rfl, ?_⟩
      rw [hzc, rep_flat]
      show _ = (List.replicate cn.toNat false).map _
      rw [List.map_replicate]
    · rename_i s hzc
      split at hr
      case isFalse => cases hr
      simp only [Option.some.injEq] at hr; subst hr
      refine ⟨by rw [← Array.length_toList, hzc]; rfl, ?_⟩
      rw [hzc, rep_flat]
      show _ = (List.replicate cn.toNat s).map _
      rw [List.map_replicate]
    · cases hr
  have hk : kindOf P o.op = .N := by rw [ho]; rfl
  refine .N (x := .row r false) (f := fun b => mk (.slice (some ⟨b, 0, none⟩) (std.nat cn) (unk 1))) hk rfl rfl fun {μ base w ρ' g} hr' hrel {b} hb => ?_
  have hst : stepN P (fun x => den (evA st.tmps x)) o = some (.cells r.cells false, fun b => .slice (some ⟨b, 0, none⟩) cn.toNat cn.toNat) := by
    unfold stepN
    rw [ho]
    simp only [hu, hz, hi, hl, hc]
    rw [if_pos ⟨by rw [hrow.1, hsz], by omega, by omega, Int.le_refl _, h3, h4⟩, hrow.2]
  obtain ⟨v', w', p, g1, g2, g3⟩ := simN hk hst hr'.den hrel hb
  have hrl : r.cells.length = cn.toNat := by rw [← hrow.2, List.length_flatten, List.map_replicate, Array.length_toList, hrow.1]; simp
  have hp : Mu.upd μ b p b = some p := Mu.upd_same _ _ _
  have hbr := g3.rel.blk b p (.cells r.cells false) hp (by simp)
  refine ⟨v', w', p, μ.z, g1, ?_, g3.swap fun c y hy => ?_⟩
  · have g2 : VR (Mu.upd μ b p) (.slice (some ⟨b, 0, none⟩) cn.toNat cn.toNat) v' := g2
    obtain ⟨arr, ee, fr, a1, a2, a3, a4⟩ := hbr
    have hN : p.s + cn.toNat ≤ p.N := by
      obtain ⟨v1, b1, _⟩ := a3 (cn.toNat - 1) (r.cells[cn.toNat - 1]'(by omega)) (List.getElem?_eq_getElem _)
      have := (Array.getElem?_eq_some_iff.1 b1).1
      omega
    rcases g2.inv_slice with ⟨p', k', hp', rfl, hlen, hcap⟩ | ⟨h0, _⟩
    · rw [hp] at hp'
      simp only [Option.some.injEq] at hp'
      subst hp'
      refine .zero (.mark (.slice hp hlen (.inl ⟨by unfold unk UNK0; omega, ?_⟩)) rfl)
      rcases hcap with ⟨hk1, _⟩ | ⟨hk1, _⟩
      · unfold UNK0 at hk1; omega
      · rw [show unk 1 - UNK0 = 1 by unfold unk UNK0; omega]; omega
    · omega
  · split at hy
    · rename_i hcb
      simp only [Option.some.injEq] at hy; subst hy
      refine ⟨.cells r.cells false, by simp [hcb], rfl, fun p hp => hp⟩
    · rename_i hcb
      exact ⟨y, by simp [hcb]; exact hy, rfl, fun _ h => h⟩
end
end Go.Abs
