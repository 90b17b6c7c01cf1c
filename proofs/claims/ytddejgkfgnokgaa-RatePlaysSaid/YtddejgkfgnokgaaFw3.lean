/-
  UNKNOWN VALUES: operations that write memory, or make it.
-/
import Derived.Test.YtddejgkfgnokgaaFw2
section
namespace Go.Abs
open Go

noncomputable section
variable (S : Sy)

/-- What is appended: elements that are told one by one, or a row. -/
inductive SrcX where
  | conc (m : Nat) (cs : List Value)
  | row (ob : Prop) (m : Nat) (r : Row)

def symSrc (P : Program) (sz : Nat) (xt : TypeId) (x : Value) (h : Hp) : Option SrcX :=
  match P.underlying xt, den x with
  | some (.slice _), .slice none 0 0 => some (.conc 0 [])
  | some (.slice _), .slice (some ⟨b, o, none⟩) n _ => match h.get b with
    | some (.row r _) => if r.esz = sz then some (.row (r.sub S o n).1 n (r.sub S o n).2) else none
    | some (.cells cs _) =>
      if isMark x then match rowOf sz cs with
        | some r => if r.esz = sz then some (.row (r.sub S o n).1 n (r.sub S o n).2) else none
        | none => none
      else if o + n * sz ≤ cs.length then some (.conc n ((cs.drop o).take (n * sz))) else none
    | _ => none
  | some .string, .string s => if sz = 1 then (if isMark x then some (.row True (S.slen s) (.ints .u8 (S.sbytes s))) else some (.conc s.data.toList.length (valBytes s))) else none
  | _, _ => none

def Row.app : Row → Row → Option Row
  | .ints k xs, .ints k' ys => if k = k' then some (.ints k (S.app xs ys)) else none
  | .bools xs, .bools ys => some (.bools (S.app xs ys))
  | .strs xs, .strs ys => some (.strs (S.app xs ys))
  | .pairs xs, .pairs ys => some (.pairs (S.app xs ys))
  | _, _ => none

def sizeOk (n bytes : Nat) : Prop := S.nle (S.nmul n bytes) 140737488355328 ∧ S.nle n 4611686018427387904

def symApp (P : Program) (st xt : TypeId) (s x : Value) (h : Hp) : Option (List Alt) :=
  match P.underlying st with
  | some (.slice e) => match P.info? e, zeroA P e with
    | some i, some z =>
      if 0 < i.size ∧ z.cells.size = i.size then
        match symSrc S P i.size xt x h, den s with
        | some (.row ob m r2), .slice none 0 0 => some [⟨some (S.nbeq m 0 = true), some ob, .slice none 0 0, h⟩,
            ⟨some (S.nbeq m 0 = false), some (ob ∧ sizeOk S m i.bytes), mk (.slice (some ⟨h.next, 0, none⟩) m (unk i.size)), h.push (.row r2 false)⟩]
        | some (.conc 0 _), .slice _ _ _ => pure1 h s
        | some (.conc m cs), .slice (some ⟨b, o, none⟩) len cap => match h.get b with
          | some (.row r false) =>
            if r.esz = i.size ∧ cap = unk i.size ∧ 0 < m then match rowLike r cs with
              | some r2 => match (r.sub S o len).2.app S r2 with
                | some r3 => one h ((r.sub S o len).1 ∧ sizeOk S (S.nadd len m) i.bytes ∧ S.nlt 1 (S.nmul (S.nadd len m) i.size)) (mk (.slice (some ⟨h.next, 0, none⟩) (S.nadd len m) cap)) |>.map
                    (List.map fun a => { a with h := (h.put b none).push (.row r3 false) })
                | none => none
              | none => none
            else none
          | _ => none
        | some (.row ob m r2), .slice (some ⟨b, o, none⟩) len cap => match h.get b with
          | some (.row r false) =>
            if r.esz = i.size ∧ cap = unk i.size then match (r.sub S o len).2.app S r2 with
              | some r3 => some [⟨some (S.nbeq m 0 = true), some ob, s, h⟩,
                  ⟨some (S.nbeq m 0 = false), some (ob ∧ (r.sub S o len).1 ∧ sizeOk S (S.nadd len m) i.bytes ∧ S.nlt 1 (S.nmul (S.nadd len m) i.size)), mk (.slice (some ⟨h.next, 0, none⟩) (S.nadd len m) cap), (h.put b none).push (.row r3 false)⟩]
              | none => none
            else none
          | some (.cells cs false) =>
            if isMark s then none else
            if o + len * i.size ≤ cs.length then match rowLike r2 ((cs.drop o).take (len * i.size)) with
              | some r1 => match r1.app S r2 with
                | some r3 =>
                  if isUnk cap then (if cap = unk i.size then some [⟨some (S.nbeq m 0 = true), some ob, s, h⟩,
                    ⟨some (S.nbeq m 0 = false), some (ob ∧ sizeOk S (S.nadd len m) i.bytes ∧ S.nlt 1 (S.nmul (S.nadd len m) i.size)), mk (.slice (some ⟨h.next, 0, none⟩) (S.nadd len m) cap), (h.put b none).push (.row r3 false)⟩] else none)
                  else if cap = len then some [⟨some (S.nbeq m 0 = true), some ob, s, h⟩,
                    ⟨some (S.nbeq m 0 = false), some (ob ∧ sizeOk S (S.nadd len m) i.bytes), mk (.slice (some ⟨h.next, 0, none⟩) (S.nadd len m) (unk i.size)), h.push (.row r3 false)⟩] else none
                | none => none
              | none => none
            else none
          | _ => none
        | _, _ => none
      else none
    | _, _ => none
  | _ => none

/-- A store into a row. -/
def symStore (P : Program) (t : TypeId) (a x : Value) (h : Hp) : Option (List Alt) :=
  match den a with
  | .pointer (some ⟨b, o, none⟩) => match szA P t, h.get b with
    | some n, some (.row r false) => match r, denD x with
      | .ints k xs, .int k' m => if n = 1 ∧ k = k' then some [⟨none, some (S.nlt o (S.len xs)), undef, h.put b (some (.row (.ints k (S.set xs o m)) false))⟩] else none
      | .bools xs, .bool m => if n = 1 then some [⟨none, some (S.nlt o (S.len xs)), undef, h.put b (some (.row (.bools (S.set xs o m)) false))⟩] else none
      | .strs xs, .string m => if n = 1 then some [⟨none, some (S.nlt o (S.len xs)), undef, h.put b (some (.row (.strs (S.set xs o m)) false))⟩] else none
      | .pairs xs, .agg cs => match cs.toList with
        | [.string u, .string v] => if n = 2 then some [⟨none, some (S.neq (S.nmod o 2) 0 ∧ S.nlt (S.ndiv o 2) (S.len xs)), undef, h.put b (some (.row (.pairs (S.set xs (S.ndiv o 2) (u, v))) false))⟩] else none
        | _ => none
      | _, _ => none
    | _, _ => none
  | _ => none

/-- A row's part laid over. -/
def Row.lay : Row → Nat → Nat → Row → Option Row
  | .ints k xs, o, n, .ints k' ys => if k = k' then some (.ints k (S.app (S.take o xs) (S.app (S.take n ys) (S.drop (S.nadd o n) xs)))) else none
  | .bools xs, o, n, .bools ys => some (.bools (S.app (S.take o xs) (S.app (S.take n ys) (S.drop (S.nadd o n) xs))))
  | .strs xs, o, n, .strs ys => some (.strs (S.app (S.take o xs) (S.app (S.take n ys) (S.drop (S.nadd o n) xs))))
  | _, _, _, _ => none
def Row.many : Row → Nat
  | .ints _ xs => S.len xs
  | .bools xs => S.len xs
  | .strs xs => S.len xs
  | .pairs xs => S.len xs
  | .vals _ xs => S.len xs
/-- Copying. -/
def symCopy (P : Program) (dt xt : TypeId) (d x : Value) (h : Hp) : Option (List Alt) :=
  match P.underlying dt with
  | some (.slice e) => match szA P e with
    | some 1 => match P.underlying xt with
      | some (.int _) => none
      | _ => match symSrc S P 1 xt x h, den d with
        | some (.row ob m r2), .slice (some ⟨b, o, none⟩) len _ => match h.get b with
          | some (.cells cs false) => match r2 with
            | .ints k xs => if m = len ∧ o + len ≤ cs.length ∧ isMark d = false then
                one h ob (goInt len) |>.map (List.map fun a => { a with h := h.put b (some (.cells (spliceL cs o ((List.range len).map fun i => mk (.int k (S.get 0 xs i)))) false)) })
              else none
            | _ => none
          | some (.row r1 false) => match r1.lay S o (S.nmin m len) r2 with
            | some r3 => one h (ob ∧ S.nle (S.nadd o len) (r1.many S)) (mk (.int .i64 (S.int (S.nmin m len)))) |>.map (List.map fun a => { a with h := h.put b (some (.row r3 false)) })
            | none => none
          | _ => none
        | _, _ => none
    | _ => none
  | _ => none

def symE (P : Program) (ρ : Operand → Value) (o : Oper) (h : Hp) : Option (List Alt) :=
  match o.op with
  | .store t a x => symStore S P t (ρ a) (ρ x) h
  | .call { callee := .builtin .copy, args, argTypes } => match argTypes.toList, args.toList with
    | [dt, xt], [d, x] => symCopy S P dt xt (ρ d) (ρ x) h
    | _, _ => none
  | .call { callee := .builtin .append, args, argTypes } => match argTypes.toList, args.toList with
    | [st, xt], [s, x] => symApp S P st xt (ρ s) (ρ x) h
    | _, _ => none
  | _ => none

/-- A text as bytes. -/
def symN (P : Program) (ρ : Operand → Value) (o : Oper) : Option (Blk × (Nat → Value)) :=
  match o.op with
  | .convert src dst x => if isMark (ρ x) then match P.underlying src, P.underlying dst, den (ρ x) with
    | some .string, some (.slice e), .string s => match P.underlying e with
      | some (.int .u8) => some (.row (.ints .u8 (S.sbytes s)) false, fun b => mk (.slice (some ⟨b, 0, none⟩) (S.slen s) (unk 1)))
      | _ => none
    | _, _, _ => none
    else none
  | _ => none
/-- A row of zeroes of unknown length. -/
def symM (P : Program) (ρ : Operand → Value) (o : Oper) (h : Hp) : Option (List Alt) :=
  match o.op with
  | .makeSlice t l c => match P.underlying t with
    | some (.slice e) => match zeroA P e, P.info? e, den (ρ l), den (ρ c) with
      | some z, some i, .int _ l, .int _ c =>
        if i.size = 1 then match (match z.cells.toList with
          | [.int k 0] => some (Row.ints k (S.rep (S.nat l) 0))
          | [.bool false] => some (Row.bools (S.rep (S.nat l) false))
          | [.string s] => if s.size = 0 then some (Row.strs (S.rep (S.nat l) s)) else none
          | _ => none) with
          | some r => some [⟨none, some (S.ieq c l ∧ S.ilt 0 l ∧ S.ilt l 4611686018427387904 ∧ S.ile (S.mul i.bytes l) 140737488355328), mk (.slice (some ⟨h.next, 0, none⟩) (S.nat l) (unk 1)), h.push (.row r false)⟩]
          | none => none
        else none
      | _, _, _, _ => none
    | _ => none
  | _ => none
end

section
variable {P : Program}

theorem denD_slice {v : Value} {a : Option Addr} {n k : Nat} (h : den v = .slice a n k) : denD v = .slice a n k := by
  unfold denD
  split
  · rename_i cs; unfold den at h; cases h
  · exact h
theorem denD_ptr {v : Value} {a : Option Addr} (h : den v = .pointer a) : denD v = .pointer a := by
  unfold denD
  split
  · rename_i cs; unfold den at h; cases h
  · exact h
theorem denD_str {v : Value} {a : ByteArray} (h : den v = .string a) : denD v = .string a := by
  unfold denD
  split
  · rename_i cs; unfold den at h; cases h
  · exact h

theorem stepE_sem {o : Oper} {s : St} {v raw : Value} {h' hv' : Hp} (he : isEff P o = true) (hs : stepE P (fun x => denD (evA s.tmps x)) o s.h.view = some (raw, hv')) (hm : Marks v raw) (hn : hv'.next = h'.next)
    (hg : ∀ b, hv'.get b = (h'.get b).map Blk.view) (hk : ∀ {μ : Mu} {ρ' : Operand → Value}, OpR μ (evA s.tmps) ρ' o.op.operands.toList → Keeps μ s.h h') : StepS P o s v h' := by
  have hnx : s.h.next ≤ h'.next := by rw [← hn]; exact stepE_next (h := s.h.view) hs
  refine .E he hnx fun {μ base w a K Q} hr hrel hf hK => ?_
  unfold Oper.wp
  obtain ⟨w1, μ1, h1⟩ := simE hs hr.denD hrel.ofView (fun hlt => hf s.h.next (Nat.le_refl _) (by rw [← hn]; exact hlt))
  have conv : ∀ {v' : Value} {w' : World} {μ' : Mu}, Out μ base s.h.view w raw hv' v' w' μ' → Out μ base s.h w v h' v' w' μ' := fun ho =>
    ⟨hm.vr ho.val, ho.sim.unview hg, hnx, fun b hb => by rw [← hn]; exact ho.dom b hb, hk hr⟩
  rcases h1 with ⟨h1, h2, rfl⟩ | ⟨v', w', μ', h1, h2⟩
  · rw [h2]
    have hv : v = undef := by
      rcases hm with h | ⟨_, h⟩
      · exact h
      · simp [undef, markable] at h
    subst hv
    exact hK _ w1 μ1 (conv h1)
  · rw [h2]; exact hK v' w' μ' (conv h1)

theorem sub_view {b o n : Nat} {h : Hp} {r : Row} (hrow : h.view.row b = some r.cells) (hs : (r.sub std o n).1) : h.view.cells b o (n * r.esz) = some (r.sub std o n).2.cells := by
  obtain ⟨h1, h2, _⟩ := sub_spec hs
  unfold Hp.cells
  rw [hrow]
  simp only [h2, if_true, h1]
theorem row_row {h : Hp} {b : Nat} {r : Row} {ro : Bool} (hb : h.get b = some (.row r ro)) : h.view.row b = some r.cells := by
  unfold Hp.row
  rw [h.get_view, hb]
  simp only [Option.map_some, view_row, row_den]

theorem sbytes_val (s : ByteArray) : (Row.ints .u8 (std.sbytes s)).cells = valBytes s := by
  show (List.map _ (List.map _ _)) = _
  rw [List.map_map]; rfl

theorem rowOf_row {h : Hp} {b sz : Nat} {cs : List Value} {ro : Bool} {r : Row} (hb : h.get b = some (.cells cs ro)) (hr : rowOf sz cs = some r) : h.view.row b = some r.cells := by
  unfold Hp.row
  rw [h.get_view, hb]
  simp only [Option.map_some, view_cells, rowOf_spec hr]

theorem src_row {sz : Nat} {xt : TypeId} {zero : List Value} {x : Value} {h : Hp} {ob : Prop} {m : Nat} {r : Row} (e : symSrc std P sz xt x h = some (.row ob m r)) (hob : ob) :
    sourceA P sz xt zero (denD x) h.view = some (m, r.cells) ∧ r.cells.length = m * sz := by
  unfold symSrc at e
  split at e
  · cases e
  · rename_i el b o n k hu hx
    rw [denD_slice hx]
    split at e
    · rename_i r0 ro hb
      split at e
      · rename_i hsz
        simp only [Option.some.injEq, SrcX.row.injEq] at e
        obtain ⟨rfl, rfl, rfl⟩ := e
        subst hsz
        unfold sourceA
        rw [hu]
        simp only [sub_view (row_row hb) hob]
        exact ⟨trivial, (sub_spec hob).2.2⟩
      · cases e
    · rename_i cs ro hb
      split at e
      · split at e
        · rename_i r0 hr0
          split at e
          · rename_i hsz
            simp only [Option.some.injEq, SrcX.row.injEq] at e
            obtain ⟨rfl, rfl, rfl⟩ := e
            subst hsz
            unfold sourceA
            rw [hu]
            simp only [sub_view (rowOf_row hb hr0) hob]
            exact ⟨trivial, (sub_spec hob).2.2⟩
          · cases e
        · cases e
      · split at e <;> cases e
    · cases e
  · rename_i s hu hx
    rw [denD_str hx]
    split at e
    · rename_i hsz
      split at e
      · simp only [Option.some.injEq, SrcX.row.injEq] at e
        obtain ⟨rfl, rfl, rfl⟩ := e
        subst hsz
        unfold sourceA
        rw [hu]
        simp only [if_true, sbytes_val]
        refine ⟨rfl, ?_⟩
        unfold valBytes; rw [List.length_map, Nat.mul_one]; rfl
      · cases e
    · cases e
  · cases e

theorem src_conc {sz : Nat} {xt : TypeId} {zero : List Value} {x : Value} {h : Hp} {m : Nat} {cs : List Value} (e : symSrc std P sz xt x h = some (.conc m cs)) :
    sourceA P sz xt zero (denD x) h.view = some (m, cs.map den) ∧ cs.length = m * sz := by
  unfold symSrc at e
  split at e
  · rename_i el hu hx
    rw [denD_slice hx]
    simp only [Option.some.injEq, SrcX.conc.injEq] at e
    obtain ⟨rfl, rfl⟩ := e
    unfold sourceA
    rw [hu]
    simp
  · rename_i el b o n k hu hx
    rw [denD_slice hx]
    split at e
    · split at e <;> cases e
    · rename_i cs0 ro hb
      split at e
      · split at e
        · split at e <;> cases e
        · cases e
      · split at e
        · rename_i hl
          simp only [Option.some.injEq, SrcX.conc.injEq] at e
          obtain ⟨rfl, rfl⟩ := e
          unfold sourceA
          rw [hu]
          have hc : h.view.cells b o (n * sz) = some (((cs0.drop o).take (n * sz)).map den) := by
            unfold Hp.cells Hp.row
            rw [h.get_view, hb]
            simp only [Option.map_some, view_cells, List.length_map, hl, if_true, List.map_take, List.map_drop]
          simp only [hc]
          refine ⟨trivial, ?_⟩
          rw [List.length_take, List.length_drop]; omega
        · cases e
    · cases e
  · rename_i s hu hx
    rw [denD_str hx]
    split at e
    · rename_i hsz
      split at e
      · cases e
      · simp only [Option.some.injEq, SrcX.conc.injEq] at e
        obtain ⟨rfl, rfl⟩ := e
        subst hsz
        unfold sourceA
        rw [hu]
        have : (valBytes s).map den = valBytes s := by rw [← sbytes_val, row_den]
        simp only [if_true, this]
        refine ⟨trivial, ?_⟩
        unfold valBytes; rw [List.length_map, Nat.mul_one]
    · cases e
  · cases e

theorem app_spec {r1 r2 r3 : Row} (h : r1.app std r2 = some r3) : r3.cells = r1.cells ++ r2.cells := by
  unfold Row.app at h
  split at h
  · split at h
    · rename_i hk
      subst hk
      simp only [Option.some.injEq] at h; subst h
      exact List.map_append
    · cases h
  · simp only [Option.some.injEq] at h; subst h; exact List.map_append
  · simp only [Option.some.injEq] at h; subst h; exact List.map_append
  · simp only [Option.some.injEq] at h; subst h; exact pairs_app _ _
  · cases h

theorem push_view {h : Hp} {hv : Hp} {r : Row} {cs : List Value} (hn : hv.next = h.next) (hg : ∀ b, hv.get b = (h.get b).map Blk.view) (hcs : cs = r.cells) (b : Nat) :
    (hv.push (.cells cs false)).get b = ((h.push (.row r false)).get b).map Blk.view := by
  rw [Hp.get_push, Hp.get_push, hn]
  split
  · simp only [Option.map_some, view_row, row_den, hcs]
  · exact hg b
theorem put_none_view {h : Hp} {b : Nat} (hb : b < h.next) (c : Nat) : (h.view.put b none).get c = ((h.put b none).get c).map Blk.view := by
  rw [Hp.get_put _ _ _ _ (by exact hb), Hp.get_put _ _ _ _ hb]
  split
  · rfl
  · exact h.get_view c

theorem nb_true {m : Nat} (h : std.nbeq m 0 = true) : m = 0 := by
  have : (m == 0) = true := h
  simpa using this
theorem nb_false {m : Nat} (h : std.nbeq m 0 = false) : m ≠ 0 := by
  have : (m == 0) = false := h
  simpa using this

theorem keep_slice {μ : Mu} {h : Hp} {v v' : Value} {b o n k : Nat} {x : Blk} (hv : VR μ v v') (hd : den v = .slice (some ⟨b, o, none⟩) n k) (hb : b < h.next) : Keeps μ h ((h.put b none).push x) := by
  have h1 := hv.den
  rw [hd] at h1
  have hp : ∃ p, μ b = some p := by
    rcases h1.inv_slice with ⟨p, _, hp, _⟩ | ⟨_, _, _, hp, _⟩
    · exact ⟨p, hp⟩
    · exact hp
  obtain ⟨p, hp⟩ := hp
  intro c hc hn
  rw [Hp.get_push, if_neg (by simp; omega)]
  exact Keeps.put hp hb c hc hn

set_option maxHeartbeats 1000000 in
theorem symApp_ok {o : Oper} {st : St} {ty xt : TypeId} {s x : Operand} {args : Array Operand} {argTypes : Array TypeId} {alts : List Alt} (ho : o.op = .call { callee := .builtin .append, args, argTypes })
    (ht : argTypes.toList = [ty, xt]) (ha : args.toList = [s, x]) (e : symApp std P ty xt (evA st.tmps s) (evA st.tmps x) st.h = some alts) : AltsOk alts fun a => StepS P o st a.v a.h := by
  have hE : isEff P o = true := by unfold isEff; rw [ho]; rfl
  have mkE : ∀ {v raw : Value} {h' hv' : Hp}, appendA P ty xt (denD (evA st.tmps s)) (denD (evA st.tmps x)) st.h.view = some (raw, hv') → Marks v raw → hv'.next = h'.next → (∀ b, hv'.get b = (h'.get b).map Blk.view) →
      (∀ {μ : Mu} {v' : Value}, VR μ (evA st.tmps s) v' → Keeps μ st.h h') → StepS P o st v h' := by
    intro v raw h' hv' h1 h2 h3 h4 h5
    refine stepE_sem hE (raw := raw) (hv' := hv') ?_ h2 h3 h4 fun {μ ρ'} hr => h5 (hr s ?_)
    · unfold stepE
      rw [ho]
      simp only [ht, ha, List.map_cons, List.map_nil]
      exact h1
    · rw [ho]; simp [Op.operands, Call.operands, ha]
  unfold symApp at e
  split at e
  case h_2 => cases e
  rename_i el hu
  split at e
  case h_2 => cases e
  rename_i i z hi hz
  split at e
  case isFalse => cases e
  rename_i hsz
  -- nothing appended
  have same : ∀ {m : Nat} {cs : List Value}, sourceA P i.size xt z.cells.toList (denD (evA st.tmps x)) st.h.view = some (m, cs) → m = 0 → (∃ a n k, den (evA st.tmps s) = .slice a n k) → StepS P o st (evA st.tmps s) st.h := by
    intro m cs hsrc hm ⟨a, n, k, hs⟩
    refine mkE (raw := .slice a n k) (hv' := st.h.view) ?_ ?_ rfl st.h.get_view fun _ => Keeps.refl _ _
    · unfold appendA
      rw [hu]
      simp only [hi, hz, hsz, and_self, if_true, hsrc, hm, denD_slice hs]
    · rcases den_cases (evA st.tmps s) with e | ⟨w, e, hm', e'⟩
      · rw [← hs, e]; exact .inl rfl
      · rw [e', ] at hs; rw [e, hs]; exact .inr ⟨rfl, rfl⟩
  split at e
  · -- onto nil
    rename_i ob m r2 hsrc hs
    simp only [Option.some.injEq] at e; subst e
    refine ⟨?_, fun a ha' hc hob => ?_⟩
    · cases hb : std.nbeq m 0
      · exact ⟨_, List.mem_cons_of_mem _ (List.mem_singleton.2 rfl), rfl⟩
      · exact ⟨_, List.mem_cons_self, rfl⟩
    · rcases List.mem_cons.1 ha' with rfl | ha'
      · obtain ⟨h1, h2⟩ := src_row (zero := z.cells.toList) hsrc hob
        have := same h1 (nb_true hc) ⟨_, _, _, hs⟩
        refine mkE (raw := .slice none 0 0) (hv' := st.h.view) ?_ (.inl rfl) rfl st.h.get_view fun _ => Keeps.refl _ _
        unfold appendA
        rw [hu]
        simp only [hi, hz, hsz, and_self, if_true, h1, nb_true hc, denD_slice hs]
      · rw [List.mem_singleton.1 ha'] at hc hob ⊢
        obtain ⟨h0, hl1, hl2⟩ := hob
        have hl1 : m * i.bytes ≤ 140737488355328 := hl1
        have hl2 : m ≤ 4611686018427387904 := hl2
        obtain ⟨h1, h2⟩ := src_row (zero := z.cells.toList) hsrc h0
        refine mkE (raw := .slice (some ⟨st.h.next, 0, none⟩) m (unk i.size)) (hv' := st.h.view.push (.cells r2.cells false)) ?_ (.inr ⟨rfl, rfl⟩) rfl (push_view rfl st.h.get_view rfl) fun _ => Keeps.push _ _ _
        unfold appendA
        rw [hu]
        simp only [hi, hz, hsz, and_self, if_true, h1, nb_false hc, if_false, denD_slice hs, hl1, hl2]
        rfl
  · -- no elements
    rename_i cs a n k hsrc hs
    obtain ⟨h1, _⟩ := src_conc (zero := z.cells.toList) hsrc
    exact alts_pure e (same h1 rfl ⟨_, _, _, hs⟩)
  · -- elements, onto a row
    rename_i m cs b o' len cap _ hsrc hs
    split at e
    case h_2 => cases e
    rename_i r hb
    split at e
    case isFalse => cases e
    rename_i hc
    obtain ⟨hesz, hcap, hm⟩ := hc
    split at e
    case h_2 => cases e
    rename_i r2 hr2
    split at e
    case h_2 => cases e
    rename_i r3 hr3
    unfold one at e
    simp only [Option.map_some, List.map_cons, List.map_nil, Option.some.injEq] at e; subst e
    refine ⟨⟨_, List.mem_singleton.2 rfl, trivial⟩, fun a ha' _ hob => ?_⟩
    rw [List.mem_singleton.1 ha'] at hob ⊢
    obtain ⟨h0, ⟨hl1, hl2⟩, hl3⟩ := hob
    have hl1 : (len + m) * i.bytes ≤ 140737488355328 := hl1
    have hl2 : len + m ≤ 4611686018427387904 := hl2
    have hl3 : 1 < (len + m) * i.size := hl3
    obtain ⟨h1, h2⟩ := src_conc (zero := z.cells.toList) hsrc
    obtain ⟨h3, h4, h5⟩ := sub_spec h0
    rw [hesz] at h3 h4 h5
    have hbn := Hp.lt_of_get hb
    refine mkE (raw := .slice (some ⟨st.h.next, 0, none⟩) (len + m) cap) (hv' := (st.h.view.put b none).push (.cells ((r.cells.drop o').take (len * i.size) ++ cs.map den) false)) ?_ (.inr ⟨rfl, rfl⟩) rfl
      (push_view rfl (put_none_view hbn) (by rw [h3, app_spec hr3, rowLike_spec hr2])) fun hv => keep_slice hv hs hbn
    unfold appendA
    rw [hu]
    have hg : st.h.view.get b = some (.cells r.cells false) := by rw [st.h.get_view, hb]; simp only [Option.map_some, view_row, row_den]
    have hne : len * i.size + (cs.map den).length ≠ 1 := by rw [List.length_map, h2, ← Nat.add_mul]; omega
    simp only [hi, hz, hsz, and_self, if_true, h1, show ¬ m = 0 from by omega, if_false, denD_slice hs, hl1, hl2, hg, hcap, isUnk_unk]
    rw [if_pos ⟨trivial, h4, hne⟩]
    rfl
  · -- a row, onto something
    rename_i ob m r2 b o' len cap hsrc hs
    have two : ∀ {ob2 : Prop} {v2 : Value} {h2 : Hp}, (m ≠ 0 → ob2 → StepS P o st v2 h2) → (ob2 → ob) → some [(⟨some (std.nbeq m 0 = true), some ob, evA st.tmps s, st.h⟩ : Alt), ⟨some (std.nbeq m 0 = false), some ob2, v2, h2⟩] = some alts → AltsOk alts fun a => StepS P o st a.v a.h := by
      intro ob2 v2 h2 hk _ e
      simp only [Option.some.injEq] at e; subst e
      refine ⟨?_, fun a ha' hc hob => ?_⟩
      · cases hb : std.nbeq m 0
        · exact ⟨_, List.mem_cons_of_mem _ (List.mem_singleton.2 rfl), rfl⟩
        · exact ⟨_, List.mem_cons_self, rfl⟩
      · rcases List.mem_cons.1 ha' with rfl | ha'
        · obtain ⟨h1, _⟩ := src_row (zero := z.cells.toList) hsrc hob
          exact same h1 (nb_true hc) ⟨_, _, _, hs⟩
        · rw [List.mem_singleton.1 ha'] at hc hob ⊢
          exact hk (nb_false hc) hob
    split at e
    · rename_i r hb
      split at e
      case isFalse => cases e
      rename_i hc
      obtain ⟨hesz, hcap⟩ := hc
      split at e
      case h_2 => cases e
      rename_i r3 hr3
      refine two (fun hm hob => ?_) (fun h => h.1) e
      obtain ⟨hob, h0, ⟨hl1, hl2⟩, hl3⟩ := hob
      have hl1 : (len + m) * i.bytes ≤ 140737488355328 := hl1
      have hl2 : len + m ≤ 4611686018427387904 := hl2
      have hl3 : 1 < (len + m) * i.size := hl3
      obtain ⟨h1, h2⟩ := src_row (zero := z.cells.toList) hsrc hob
      obtain ⟨h3, h4, h5⟩ := sub_spec h0
      rw [hesz] at h3 h4 h5
      have hbn := Hp.lt_of_get hb
      refine mkE (raw := .slice (some ⟨st.h.next, 0, none⟩) (len + m) cap) (hv' := (st.h.view.put b none).push (.cells ((r.cells.drop o').take (len * i.size) ++ r2.cells) false)) ?_ (.inr ⟨rfl, rfl⟩) rfl
        (push_view rfl (put_none_view hbn) (by rw [h3, app_spec hr3])) fun hv => keep_slice hv hs hbn
      unfold appendA
      rw [hu]
      have hg : st.h.view.get b = some (.cells r.cells false) := by rw [st.h.get_view, hb]; simp only [Option.map_some, view_row, row_den]
      have hne : len * i.size + r2.cells.length ≠ 1 := by rw [h2, ← Nat.add_mul]; omega
      simp only [hi, hz, hsz, and_self, if_true, h1, hm, if_false, denD_slice hs, hl1, hl2, hg, hcap, isUnk_unk]
      rw [if_pos ⟨trivial, h4, hne⟩]
      rfl
    · rename_i cs hb
      split at e
      case isTrue => cases e
      split at e
      case isFalse => cases e
      rename_i hlen
      split at e
      case h_2 => cases e
      rename_i r1 hr1
      split at e
      case h_2 => cases e
      rename_i r3 hr3
      have hg : st.h.view.get b = some (.cells (cs.map den) false) := by rw [st.h.get_view, hb]; rfl
      have hcell : (((cs.map den).drop o').take (len * i.size)) = r1.cells := by
        rw [← List.map_drop, ← List.map_take]; exact rowLike_spec hr1
      have hbn := Hp.lt_of_get hb
      split at e
      · rename_i hun
        split at e
        case isFalse => cases e
        rename_i hcap
        refine two (fun hm hob => ?_) (fun h => h.1) e
        obtain ⟨hob, ⟨hl1, hl2⟩, hl3⟩ := hob
        have hl1 : (len + m) * i.bytes ≤ 140737488355328 := hl1
        have hl2 : len + m ≤ 4611686018427387904 := hl2
        have hl3 : 1 < (len + m) * i.size := hl3
        obtain ⟨h1, h2⟩ := src_row (zero := z.cells.toList) hsrc hob
        refine mkE (raw := .slice (some ⟨st.h.next, 0, none⟩) (len + m) cap) (hv' := (st.h.view.put b none).push (.cells (((cs.map den).drop o').take (len * i.size) ++ r2.cells) false)) ?_ (.inr ⟨rfl, rfl⟩) rfl
          (push_view rfl (put_none_view hbn) (by rw [hcell, app_spec hr3])) fun hv => keep_slice hv hs hbn
        unfold appendA
        rw [hu]
        have hne : len * i.size + r2.cells.length ≠ 1 := by rw [h2, ← Nat.add_mul]; omega
        simp only [hi, hz, hsz, and_self, if_true, h1, hm, if_false, denD_slice hs, hl1, hl2, hg, hcap, isUnk_unk]
        rw [if_pos ⟨trivial, by rw [List.length_map]; exact hlen, hne⟩]
        rfl
      · rename_i hun
        split at e
        case isFalse => cases e
        rename_i hcap
        refine two (fun hm hob => ?_) (fun h => h.1) e
        obtain ⟨hob, hl1, hl2⟩ := hob
        have hl1 : (len + m) * i.bytes ≤ 140737488355328 := hl1
        have hl2 : len + m ≤ 4611686018427387904 := hl2
        obtain ⟨h1, h2⟩ := src_row (zero := z.cells.toList) hsrc hob
        refine mkE (raw := .slice (some ⟨st.h.next, 0, none⟩) (len + m) (unk i.size)) (hv' := st.h.view.push (.cells (((cs.map den).drop o').take (len * i.size) ++ r2.cells) false)) ?_ (.inr ⟨rfl, rfl⟩) rfl
          (push_view rfl st.h.get_view (by rw [hcell, app_spec hr3])) fun hv => Keeps.push _ _ _
        unfold appendA
        rw [hu]
        have hcells : st.h.view.cells b o' (len * i.size) = some (((cs.map den).drop o').take (len * i.size)) := by
          unfold Hp.cells Hp.row
          rw [hg]
          simp only [List.length_map, hlen, if_true]
        simp only [hi, hz, hsz, and_self, if_true, h1, hm, if_false, denD_slice hs, hl1, hl2, hun, Bool.false_eq_true, show ¬ (len + m ≤ cap) from by omega, hcells]
        rfl
    · cases e
  · cases e

theorem splice_one (cs : List Value) (o : Nat) (v : Value) : spliceL cs o [v] = cs.set o v := rfl
theorem pairs_set {xs : List (ByteArray × ByteArray)} {j : Nat} {u v : ByteArray} (h : j < xs.length) : spliceL (Row.pairs xs).cells (j * 2) [.string u, .string v] = (Row.pairs (xs.set j (u, v))).cells := by
  show ((Row.pairs xs).cells.set (j * 2) (.string u)).set (j * 2 + 1) (.string v) = _
  induction xs generalizing j with
  | nil => simp at h
  | cons x xs ih =>
    cases j with
    | zero => rfl
    | succ j =>
      rw [pairs_cons, show (j + 1) * 2 = j * 2 + 2 from by omega]
      show _ :: _ :: (((Row.pairs xs).cells.set (j * 2) (.string u)).set (j * 2 + 1) (.string v)) = _
      rw [ih (by simpa using h), List.set_cons_succ, pairs_cons]

theorem symStore_ok {o : Oper} {st : St} {t : TypeId} {a x : Operand} {alts : List Alt} (ho : o.op = .store t a x) (e : symStore std P t (evA st.tmps a) (evA st.tmps x) st.h = some alts) :
    AltsOk alts fun y => StepS P o st y.v y.h := by
  have hE : isEff P o = true := by unfold isEff; rw [ho]; rfl
  unfold symStore at e
  split at e
  case h_2 => cases e
  rename_i b o' ha
  split at e
  case h_2 => cases e
  rename_i n r hn hb
  have hbn := Hp.lt_of_get hb
  have hg : st.h.view.get b = some (.cells r.cells false) := by rw [st.h.get_view, hb]; simp only [Option.map_some, view_row, row_den]
  have mkE : ∀ {r' : Row} {cells : List Value}, (denD (evA st.tmps x)).cells.toList = cells → cells.length = n → o' + n ≤ r.cells.length → cells.all Value.oneCell' = true → spliceL r.cells o' cells = r'.cells →
      StepS P o st undef (st.h.put b (some (.row r' false))) := by
    intro r' cells h1 h2 h3 h4 h5
    refine stepE_sem hE (raw := undef) (hv' := st.h.view.put b (some (.cells (spliceL r.cells o' cells) false))) ?_ (.inl rfl) rfl (fun c => ?_) fun {μ ρ'} hr => ?_
    · unfold stepE
      rw [ho]
      simp only [storeA, denD_ptr ha, hn, hg]
      rw [if_pos ⟨by rw [← Array.length_toList, h1, h2], h3, by rw [h1]; exact h4⟩, h1]
      rfl
    · rw [Hp.get_put _ _ _ _ (by exact hbn), Hp.get_put _ _ _ _ hbn]
      split
      · simp only [Option.map_some, view_row, row_den, h5]
      · exact st.h.get_view c
    · have h1 := (hr a (by rw [ho]; simp [Op.operands])).den
      rw [ha] at h1
      obtain ⟨p, hp, _⟩ := h1.inv_ptr
      exact Keeps.put hp hbn
  have fin : ∀ {ob : Prop} {r' : Row}, (ob → StepS P o st undef (st.h.put b (some (.row r' false)))) → some [(⟨none, some ob, undef, st.h.put b (some (.row r' false))⟩ : Alt)] = some alts → AltsOk alts fun y => StepS P o st y.v y.h := by
    intro ob r' hk e
    simp only [Option.some.injEq] at e; subst e
    exact ⟨⟨_, List.mem_singleton.2 rfl, trivial⟩, fun y hy _ hob => by rw [List.mem_singleton.1 hy] at hob ⊢; exact hk hob⟩
  split at e
  · rename_i k xs k' m hx
    split at e
    case isFalse => cases e
    rename_i hc
    obtain ⟨rfl, rfl⟩ := hc
    refine fin (fun hob => ?_) e
    have hob : o' < xs.length := hob
    refine mkE (cells := [.int k m]) (by rw [hx]; rfl) rfl (by show _ ≤ (xs.map _).length; rw [List.length_map]; omega) rfl ?_
    show (xs.map (Value.int k)).set o' (.int k m) = (xs.set o' m).map _
    rw [List.map_set]
  · rename_i xs m hx
    split at e
    case isFalse => cases e
    rename_i hc
    subst hc
    refine fin (fun hob => ?_) e
    have hob : o' < xs.length := hob
    refine mkE (cells := [.bool m]) (by rw [hx]; rfl) rfl (by show _ ≤ (xs.map _).length; rw [List.length_map]; omega) rfl ?_
    show (xs.map Value.bool).set o' (.bool m) = (xs.set o' m).map _
    rw [List.map_set]
  · rename_i xs m hx
    split at e
    case isFalse => cases e
    rename_i hc
    subst hc
    refine fin (fun hob => ?_) e
    have hob : o' < xs.length := hob
    refine mkE (cells := [.string m]) (by rw [hx]; rfl) rfl (by show _ ≤ (xs.map _).length; rw [List.length_map]; omega) rfl ?_
    show (xs.map Value.string).set o' (.string m) = (xs.set o' m).map _
    rw [List.map_set]
  · rename_i xs cs hx
    split at e
    case h_2 => cases e
    rename_i u v hcs
    split at e
    case isFalse => cases e
    rename_i hc
    subst hc
    refine fin (fun hob => ?_) e
    obtain ⟨h0, h1⟩ := hob
    have h0 : o' % 2 = 0 := h0
    have h1 : o' / 2 < xs.length := h1
    refine mkE (cells := [.string u, .string v]) (by rw [hx]; exact hcs) rfl (by rw [pairs_len]; omega) rfl ?_
    have := pairs_set (u := u) (v := v) h1
    rw [show o' / 2 * 2 = o' from by omega] at this
    exact this
  · cases e

theorem splice_app : ∀ (vs l : List Value) (o : Nat), o + vs.length ≤ l.length → spliceL l o vs = l.take o ++ vs ++ l.drop (o + vs.length)
  | [], l, o, _ => by simp [spliceL]
  | v :: r, l, o, h => by
    simp only [List.length_cons] at h
    unfold spliceL
    rw [splice_app r (l.set o v) (o + 1) (by rw [List.length_set]; omega), List.take_set, List.drop_set]
    rw [if_pos (by omega), List.length_cons, show o + 1 + r.length = o + (r.length + 1) by omega]
    have h1 : (l.take (o + 1)).set o v = l.take o ++ [v] := by
      refine List.ext_getElem? fun i => ?_
      rw [List.getElem?_set, List.length_take]
      by_cases e : o = i
      · subst e
        rw [if_pos rfl, if_pos (by omega), List.getElem?_append_right (by rw [List.length_take]; omega), List.length_take, show o - min o l.length = 0 by omega]; rfl
      · rw [if_neg e]
        by_cases e2 : i < o
        · rw [List.getElem?_append_left (by rw [List.length_take]; omega), List.getElem?_take_of_lt e2, List.getElem?_take_of_lt (by omega)]
        · rw [List.getElem?_eq_none (by rw [List.length_take]; omega), List.getElem?_eq_none (by rw [List.length_append, List.length_take, List.length_singleton]; omega)]
    rw [h1, List.append_assoc, List.append_assoc, List.append_assoc]; rfl
theorem splice_map (f : Value → Value) : ∀ (vs l : List Value) (o : Nat), (spliceL l o vs).map f = spliceL (l.map f) o (vs.map f)
  | [], l, o => rfl
  | v :: r, l, o => by
    show (spliceL (l.set o v) (o + 1) r).map f = spliceL ((l.map f).set o (f v)) (o + 1) (r.map f)
    rw [splice_map f r, List.map_set]
theorem lay_spec {r1 r2 r3 : Row} {o n : Nat} (h : r1.lay std o n r2 = some r3) (hn : n ≤ r2.cells.length) (ho : o + n ≤ r1.cells.length) : spliceL r1.cells o (r2.cells.take n) = r3.cells := by
  rw [splice_app _ _ _ (by rw [List.length_take]; omega), List.length_take, Nat.min_eq_left hn]
  unfold Row.lay at h
  split at h
  · split at h
    · rename_i hk
      subst hk
      simp only [Option.some.injEq] at h; subst h
      simp only [Row.cells, ← List.map_take, ← List.map_drop, ← List.map_append, List.append_assoc]; rfl
    · cases h
  · simp only [Option.some.injEq] at h; subst h
    simp only [Row.cells, ← List.map_take, ← List.map_drop, ← List.map_append, List.append_assoc]; rfl
  · simp only [Option.some.injEq] at h; subst h
    simp only [Row.cells, ← List.map_take, ← List.map_drop, ← List.map_append, List.append_assoc]; rfl
  · cases h
theorem lay_many {r1 r2 r3 : Row} {o n : Nat} (h : r1.lay std o n r2 = some r3) : r1.many std = r1.cells.length := by
  unfold Row.lay at h
  split at h
  · exact (List.length_map ..).symm
  · exact (List.length_map ..).symm
  · exact (List.length_map ..).symm
  · cases h
theorem symCopy_ok {o : Oper} {st : St} {dt xt : TypeId} {d x : Operand} {args : Array Operand} {argTypes : Array TypeId} {alts : List Alt} (ho : o.op = .call { callee := .builtin .copy, args, argTypes })
    (ht : argTypes.toList = [dt, xt]) (ha : args.toList = [d, x]) (e : symCopy std P dt xt (evA st.tmps d) (evA st.tmps x) st.h = some alts) : AltsOk alts fun a => StepS P o st a.v a.h := by
  have hE : isEff P o = true := by unfold isEff; rw [ho]; rfl
  unfold symCopy at e
  split at e
  case h_2 => cases e
  rename_i el hu
  split at e
  case h_2 => cases e
  rename_i hsz
  split at e
  · cases e
  rename_i hni
  split at e
  case h_2 => cases e
  rename_i ob m r2 b o' len cap hsrc hd
  have mkE : ∀ {v raw : Value} {h' : Hp} {cs : List Value}, copyA P dt xt (denD (evA st.tmps d)) (denD (evA st.tmps x)) st.h.view = some (raw, st.h.view.put b (some (.cells cs false))) → Marks v raw → b < st.h.next → (∃ y, h' = st.h.put b (some y) ∧ y.view = .cells cs false) → StepS P o st v h' := by
    rintro v raw h' cs h1 h2 h3 ⟨y, rfl, hy⟩
    refine stepE_sem hE (raw := raw) (hv' := st.h.view.put b (some (.cells cs false))) ?_ h2 rfl (fun c => ?_) fun {μ ρ'} hr => ?_
    · unfold stepE
      rw [ho]
      simp only [ht, ha, List.map_cons, List.map_nil]
      exact h1
    · rw [Hp.get_put _ _ _ _ (by exact h3), Hp.get_put _ _ _ _ h3]
      split
      · simp only [Option.map_some, hy]
      · exact st.h.get_view c
    · have h4 := (hr d (by rw [ho]; simp [Op.operands, Call.operands, ha])).den
      rw [hd] at h4
      rcases h4.inv_slice with ⟨p, _, hp, _⟩ | ⟨_, _, _, ⟨p, hp⟩, _⟩
      · exact Keeps.put hp h3
      · exact Keeps.put hp h3
  have run : ∀ {cs : List Value}, ob → st.h.view.get b = some (.cells cs false) → o' + len ≤ cs.length → copyA P dt xt (denD (evA st.tmps d)) (denD (evA st.tmps x)) st.h.view = some (goInt ((min m len : Nat) : Int), st.h.view.put b (some (.cells (spliceL cs o' (r2.cells.take (min m len))) false))) := by
    intro cs hob hg hl
    obtain ⟨h1, h2⟩ := src_row (zero := []) hsrc hob
    unfold copyA
    rw [hu]
    simp only [hsz, h1, denD_slice hd, hg, Nat.mul_one, hl, if_true]
    have : min (m : Int) (len : Int) = ((min m len : Nat) : Int) := by omega
    rw [this]
  split at e
  · rename_i cs hb
    split at e
    case h_2 => cases e
    rename_i k xs
    split at e
    case isFalse => cases e
    rename_i hc
    obtain ⟨rfl, hlen, hmk⟩ := hc
    simp only [one, Option.map_some, List.map_cons, List.map_nil, Option.some.injEq] at e
    subst e
    refine ⟨⟨_, List.mem_singleton.2 rfl, trivial⟩, fun a ha' _ hob => ?_⟩
    rw [List.mem_singleton.1 ha'] at hob ⊢
    have hob : ob := hob
    obtain ⟨h1, h2⟩ := src_row (zero := []) hsrc hob
    have hg : st.h.view.get b = some (.cells (cs.map den) false) := by rw [st.h.get_view, hb]; rfl
    have hr := run hob hg (by rw [List.length_map]; exact hlen)
    rw [Nat.min_self] at hr
    have hxl : xs.length = m := by
      have : (xs.map (Value.int k)).length = m * 1 := h2
      rw [List.length_map] at this; omega
    refine mkE (raw := goInt m) hr (.inl rfl) (Hp.lt_of_get hb) ⟨_, rfl, ?_⟩
    show Blk.cells ((spliceL cs o' _).map den) false = _
    rw [splice_map]
    congr 2
    have : (Row.ints k xs).cells.take m = xs.map (Value.int k) := List.take_of_length_le (by show (xs.map _).length ≤ m; rw [List.length_map]; omega)
    rw [this, List.map_map]
    refine List.ext_getElem? fun i => ?_
    rw [List.getElem?_map, List.getElem?_map]
    by_cases hi : i < m
    · rw [List.getElem?_range hi, List.getElem?_eq_getElem (show i < xs.length by omega)]
      show some (Value.int k (xs.getD i 0)) = _
      rw [List.getD_eq_getElem?_getD, List.getElem?_eq_getElem (show i < xs.length by omega)]; rfl
    · rw [List.getElem?_eq_none (by rw [List.length_range]; omega), List.getElem?_eq_none (by omega)]; rfl
  · rename_i r1 hb
    split at e
    case h_2 => cases e
    rename_i r3 hr3
    simp only [one, Option.map_some, List.map_cons, List.map_nil, Option.some.injEq] at e
    subst e
    refine ⟨⟨_, List.mem_singleton.2 rfl, trivial⟩, fun a ha' _ hob => ?_⟩
    rw [List.mem_singleton.1 ha'] at hob ⊢
    obtain ⟨hob, hl⟩ := hob
    obtain ⟨h1, h2⟩ := src_row (zero := []) hsrc hob
    have hl : o' + len ≤ r1.cells.length := by rw [← lay_many hr3]; exact hl
    have hg : st.h.view.get b = some (.cells r1.cells false) := by rw [st.h.get_view, hb]; simp only [Option.map_some, view_row, row_den]
    refine mkE (raw := goInt ((min m len : Nat) : Int)) (run hob hg hl) (.inr ⟨rfl, rfl⟩) (Hp.lt_of_get hb) ⟨_, rfl, ?_⟩
    have hr3' : r1.lay std o' (min m len) r2 = some r3 := hr3
    rw [lay_spec hr3' (by rw [h2]; omega) (by omega)]
    simp only [view_row, row_den]
  · cases e

theorem symE_ok {o : Oper} {st : St} {alts : List Alt} (e : symE std P (evA st.tmps) o st.h = some alts) : AltsOk alts fun y => StepS P o st y.v y.h := by
  unfold symE at e
  split at e
  · rename_i ho
    exact symStore_ok ho e
  · rename_i ho
    split at e
    · rename_i ht ha
      exact symCopy_ok ho ht ha e
    · cases e
  · rename_i ho
    split at e
    · rename_i ht ha
      exact symApp_ok ho ht ha e
    · cases e
  · cases e

theorem Sim.swap {μ μ' : Mu} {base : Nat} {g g1 g2 : Gm} {w w' : World} (h : Sim μ base g w μ' g1 w') (hg : ∀ b x, g2 b = some x → ∃ y, g1 b = some y ∧ ownB y = ownB x ∧ ∀ p, BR μ' base w' p y → BR μ' base w' p x) :
    Sim μ base g w μ' g2 w' := by
  refine ⟨h.le, ⟨h.rel.size, fun b p x hb hx => ?_, fun b b' p p' x x' h1 h2 h3 h4 h5 h6 => ?_, fun c i a hc => ⟨(h.rel.frz c i a hc).1, fun b p x hb hx ho => ?_⟩⟩, h.fr, fun b p x hb hx => ?_, h.fz⟩
  · obtain ⟨y, hy, _, hbr⟩ := hg b x hx
    exact hbr p (h.rel.blk b p y hb hy)
  · obtain ⟨y, hy, ho, _⟩ := hg b x h3
    obtain ⟨y', hy', _, _⟩ := hg b' x' h4
    exact h.rel.inj b b' p p' y y' h1 h2 hy hy' h5 (by rw [ho]; exact h6)
  · obtain ⟨y, hy, ho', _⟩ := hg b x hx
    exact (h.rel.frz c i a hc).2 b p y hb hy (by rw [ho']; exact ho)
  · obtain ⟨y, hy, ho, _⟩ := hg b x hx
    rw [← ho]
    exact h.own b p y hb hy

theorem symN_ok {ρ : Operand → Value} {o : Oper} {x : Blk} {f : Nat → Value} (e : symN std P ρ o = some (x, f)) : kindOf P o.op = .N ∧ SemN P ρ o x f := by
  unfold symN at e
  split at e
  case h_2 => cases e
  rename_i src dst y ho
  split at e
  case isFalse => cases e
  split at e
  case h_2 => cases e
  rename_i el s hs hd hy
  split at e
  case h_2 => cases e
  rename_i he
  simp only [Option.some.injEq, Prod.mk.injEq] at e
  obtain ⟨rfl, rfl⟩ := e
  have hk : kindOf P o.op = .N := by rw [ho]; simp only [kindOf, hs, hd]
  refine ⟨hk, fun {μ base w ρ' g} hr hrel {b} hb => ?_⟩
  have hst : stepN P (fun x => den (ρ x)) o = some (.cells (valBytes s) false, fun b => .slice (some ⟨b, 0, none⟩) s.data.toList.length (unk 1)) := by
    unfold stepN
    rw [ho]
    simp only [hd, hy, he]
  obtain ⟨v', w', p, h1, h2, h3⟩ := simN hk hst hr.den hrel hb
  refine ⟨v', w', p, μ.z, h1, (show Marks (mk _) _ from .inr ⟨rfl, rfl⟩).vr h2, h3.swap fun c z hz => ?_⟩
  split at hz
  · rename_i hc
    simp only [Option.some.injEq] at hz; subst hz
    refine ⟨.cells (valBytes s) false, by simp [hc], rfl, fun p hp => ?_⟩
    rw [← sbytes_val] at hp
    exact hp
  · rename_i hc
    exact ⟨z, by simp [hc]; exact hz, rfl, fun _ h => h⟩
theorem rep_flat (n : Nat) (v : Value) : (List.replicate n [v]).flatten = List.replicate n v := by
  induction n with
  | zero => rfl
  | succ n ih => rw [List.replicate_succ, List.flatten_cons, ih]; rfl
theorem symM_ok {o : Oper} {st : St} {alts : List Alt} (e : symM std P (evA st.tmps) o st.h = some alts) : AltsOk alts fun a => StepS P o st a.v a.h := by
  unfold symM at e
  split at e
  case h_2 => cases e
  rename_i t l c ho
  split at e
  case h_2 => cases e
  rename_i el hu
  split at e
  case h_2 => cases e
  rename_i z i k1 ln k2 cn hz hi hl hc
  split at e
  case isFalse => cases e
  rename_i hsz
  split at e
  case h_2 => cases e
  rename_i r hr
  simp only [Option.some.injEq] at e; subst e
  refine ⟨⟨_, List.mem_singleton.2 rfl, trivial⟩, fun a ha' _ hob => ?_⟩
  rw [List.mem_singleton.1 ha'] at hob ⊢
  obtain ⟨h1, h2, h3, h4⟩ := hob
  have h1 : cn = ln := h1
  have h2 : 0 < ln := h2
  have h3 : ln < 4611686018427387904 := h3
  have h4 : (i.bytes : Int) * ln ≤ 140737488355328 := h4
  subst h1
  have hrow : z.cells.size = 1 ∧ (List.replicate cn.toNat z.cells.toList).flatten = r.cells := by
    split at hr
    · rename_i k hzc
      simp only [Option.some.injEq] at hr; subst hr
      refine ⟨by rw [← Array.length_toList, hzc]; rfl, ?_⟩
      rw [hzc, rep_flat]
      show _ = (List.replicate cn.toNat 0).map _
      rw [List.map_replicate]
    · rename_i hzc
      simp only [Option.some.injEq] at hr; subst hr
      refine ⟨by rw [← Array.length_toList, hzc]; rfl, ?_⟩
      rw [hzc, rep_flat]
      show _ = (List.replicate cn.toNat false).map _
      rw [List.map_replicate]
    · rename_i s hzc
      split at hr
      case isFalse => cases hr
      simp only [Option.some.injEq] at hr; subst hr
      refine ⟨by rw [← Array.length_toList, hzc]; rfl, ?_⟩
      rw [hzc, rep_flat]
      show _ = (List.replicate cn.toNat s).map _
      rw [List.map_replicate]
    · cases hr
  have hk : kindOf P o.op = .N := by rw [ho]; rfl
  refine .N (x := .row r false) (f := fun b => mk (.slice (some ⟨b, 0, none⟩) (std.nat cn) (unk 1))) hk rfl rfl fun {μ base w ρ' g} hr' hrel {b} hb => ?_
  have hst : stepN P (fun x => den (evA st.tmps x)) o = some (.cells r.cells false, fun b => .slice (some ⟨b, 0, none⟩) cn.toNat cn.toNat) := by
    unfold stepN
    rw [ho]
    simp only [hu, hz, hi, hl, hc]
    rw [if_pos ⟨by rw [hrow.1, hsz], by omega, by omega, Int.le_refl _, h3, h4⟩, hrow.2]
  obtain ⟨v', w', p, g1, g2, g3⟩ := simN hk hst hr'.den hrel hb
  have hrl : r.cells.length = cn.toNat := by rw [← hrow.2, List.length_flatten, List.map_replicate, Array.length_toList, hrow.1]; simp
  have hp : Mu.upd μ b p b = some p := Mu.upd_same _ _ _
  have hbr := g3.rel.blk b p (.cells r.cells false) hp (by simp)
  refine ⟨v', w', p, μ.z, g1, ?_, g3.swap fun c y hy => ?_⟩
  · have g2 : VR (Mu.upd μ b p) (.slice (some ⟨b, 0, none⟩) cn.toNat cn.toNat) v' := g2
    obtain ⟨arr, ee, fr, a1, a2, a3, a4⟩ := hbr
    have hN : p.s + cn.toNat ≤ p.N := by
      obtain ⟨v1, b1, _⟩ := a3 (cn.toNat - 1) (r.cells[cn.toNat - 1]'(by omega)) (List.getElem?_eq_getElem _)
      have := (Array.getElem?_eq_some_iff.1 b1).1
      omega
    rcases g2.inv_slice with ⟨p', k', hp', rfl, hlen, hcap⟩ | ⟨h0, _⟩
    · rw [hp] at hp'
      simp only [Option.some.injEq] at hp'
      subst hp'
      refine .zero (.mark (.slice hp hlen (.inl ⟨by unfold unk UNK0; omega, ?_⟩)) rfl)
      rcases hcap with ⟨hk1, _⟩ | ⟨hk1, _⟩
      · unfold UNK0 at hk1; omega
      · rw [show unk 1 - UNK0 = 1 by unfold unk UNK0; omega]; omega
    · omega
  · split at hy
    · rename_i hcb
      simp only [Option.some.injEq] at hy; subst hy
      refine ⟨.cells r.cells false, by simp [hcb], rfl, fun p hp => hp⟩
    · rename_i hcb
      exact ⟨y, by simp [hcb]; exact hy, rfl, fun _ h => h⟩
end
end Go.Abs
end
section
namespace Go.Abs
open Go

noncomputable section
/-- Two zeroes that are the same. -/
def zeq : Nat → Value → Value → Bool
  | 0, _, _ => false
  | n + 1, a, b => match a, b with
    | .agg xs, .agg ys => xs.toList.length == ys.toList.length && (xs.toList.zip ys.toList).all fun p => zeq n p.1 p.2
    | .func (.yield 1) f xs, .func (.yield 1) g ys => xs.toList.isEmpty && ys.toList.isEmpty && f.toList.length == g.toList.length && (f.toList.zip g.toList).all fun p => zeq n p.1 p.2
    | a, b => vbeq1 a b
/-- A cell as immutable data, of a zero's kind. -/
def rawCell (deep : Value → Value → Option (List Value)) (z c : Value) : Option Value :=
  match z with
  | .int k _ => match den c with
    | .int k' n => if k = k' then some (.int k n) else none
    | _ => none
  | .string _ => match den c with
    | .string s => some (.string s)
    | _ => none
  | .bool _ => match c with
    | .bool b => some (.bool b)
    | .func (.yield 3) f y => match f.toList, y.toList with
      | [.bool b], [] => some (.bool b)
      | _, _ => none
    | _ => none
  | .func (.yield 1) f _ => match f.toList with
    | [z'] => (deep z' c).map fun xs => dsl z' xs
    | _ => none
  | z => if plain1 z && vbeq1 z c then some z else none
def rawCells (deep : Value → Value → Option (List Value)) : List Value → List Value → Option (List Value × List Value)
  | [], cs => some ([], cs)
  | z :: zs, c :: cs => match rawCell deep z c with
    | some x => match rawCells deep zs cs with
      | some (xs, r) => some (x :: xs, r)
      | none => none
    | none => none
  | _ :: _, [] => none
def rawElem (deep : Value → Value → Option (List Value)) (z : Value) (cs : List Value) : Option (Value × List Value) :=
  match z with
  | .agg zs => match rawCells deep zs.toList cs with
    | some (xs, r) => some (.agg xs.toArray, r)
    | none => none
  | z => match cs with
    | c :: r => (rawCell deep z c).map fun x => (x, r)
    | [] => none
def rawElems (deep : Value → Value → Option (List Value)) (z : Value) : Nat → List Value → Option (List Value)
  | 0, _ => some []
  | m + 1, cs => match rawElem deep z cs with
    | some (x, r) => match rawElems deep z m r with
      | some xs => some (x :: xs)
      | none => none
    | none => none
/-- A slice as immutable data: its elements; of the blocks that may be frozen. -/
def deepV (h : Hp) (ok : Nat → Bool) : Nat → Value → Value → Option (List Value)
  | 0, _, _ => none
  | n + 1, z, v => match v with
    | .func (.yield 1) f xs => match f.toList with
      | [z0] => if zeq 5 z0 z then some xs.toList else none
      | _ => none
    | .func (.yield 5) f xs => match f.toList with
      | [z0, .slice none _ _] => if zeq 5 z0 z then some xs.toList else none
      | _ => none
    | .slice none 0 0 => some []
    | v => match den v with
      | .slice (some ⟨b, o, none⟩) m _ => match h.get b with
        | some (.cells cs false) => if ok b then rawElems (deepV h ok n) z m (cs.drop o) else none
        | _ => none
      | _ => none
/-- Which blocks that visits. -/
def deepBs (h : Hp) : Nat → Value → List Nat
  | 0, _ => []
  | n + 1, v => match den v with
      | .slice (some ⟨b, _, none⟩) _ _ => match h.get b with
        | some (.cells cs false) => b :: cs.flatMap (deepBs h n)
        | _ => []
      | _ => []
def roB : Blk → Blk
  | .cells cs _ => .cells cs true
  | .row r _ => .row r true
  | x => x
def isRowB : Blk → Bool
  | .cells _ _ | .row _ _ => true
  | _ => false
end

theorem zeq_eq : ∀ {n : Nat} {a b : Value}, zeq n a b = true → a = b
  | 0, _, _, h => by simp [zeq] at h
  | n + 1, a, b, h => by
    have lst : ∀ {l m : List Value}, (l.length == m.length) = true → ((l.zip m).all fun p => zeq n p.1 p.2) = true → l = m := by
      intro l
      induction l with
      | nil => intro m h1 _; simp at h1; exact (List.length_eq_zero_iff.1 h1.symm).symm
      | cons x l ih =>
        intro m h1 h2
        cases m with
        | nil => simp at h1
        | cons y m =>
          simp only [List.zip_cons_cons, List.all_cons, Bool.and_eq_true] at h2
          rw [zeq_eq h2.1, ih (by simpa using h1) h2.2]
    unfold zeq at h
    split at h
    · simp only [Bool.and_eq_true] at h
      rw [Array.toList_inj.1 (lst h.1 h.2)]
    · simp only [Bool.and_eq_true, List.isEmpty_iff] at h
      obtain ⟨⟨⟨h1, h2⟩, h3⟩, h4⟩ := h
      rw [Array.toList_inj.1 (h1.trans h2.symm), Array.toList_inj.1 (lst h3 h4)]
    · exact vbeq1_eq h

section
variable {μ : Mu} {base : Nat} {w : World} {g : Gm}

open Classical in
/-- What is frozen behind it. -/
noncomputable def zf (μ : Mu) (g : Gm) (w : World) (S : Nat → Prop) : Nat → Nat → Option Value := fun c i =>
  if ∃ b p x, S b ∧ μ b = some p ∧ g b = some x ∧ (isRowB x = true ∧ ownB x = true) ∧ p.c = c ∧ p.s ≤ i then
    match w.heap[c]? with
    | some (.cells arr _ _) => arr[i]?
    | _ => none
  else μ.z c i
noncomputable def muF (μ : Mu) (g : Gm) (w : World) (S : Nat → Prop) : Mu := ⟨μ.f, zf μ g w S⟩
open Classical in
noncomputable def gF (g : Gm) (S : Nat → Prop) : Gm := fun b => if S b then (g b).map roB else g b

theorem muF_le (hr : Rel μ base g w) (S : Nat → Prop) : Mu.le μ (muF μ g w S) := by
  refine ⟨fun _ _ h => h, fun c i a h => ?_⟩
  show zf μ g w S c i = some a
  unfold zf
  split
  · obtain ⟨arr, e, fr, h1, h2⟩ := (hr.frz c i a h).1
    rw [h1]; exact h2
  · exact h
theorem BR.ro {p : Pl} {x : Blk} (h : BR μ base w p x) : BR μ base w p (roB x) := by
  cases x with
  | cells cs ro =>
    obtain ⟨arr, e, fr, h1, h2, h3, h4⟩ := h
    exact ⟨arr, e, fr, h1, h2, h3, fun h => by cases h⟩
  | row r ro =>
    obtain ⟨arr, e, fr, h1, h2, h3, h4⟩ := h
    exact ⟨arr, e, fr, h1, h2, h3, fun h => by cases h⟩
  | map es ck => exact h
  | smap kz vz es => exact h
theorem own_ro {x : Blk} (h : ownB (roB x) = true) : ownB x = true ∧ isRowB x = false := by
  cases x with
  | cells cs ro => simp [roB, ownB] at h
  | row r ro => simp [roB, ownB] at h
  | map es ck => exact ⟨rfl, rfl⟩
  | smap kz vz es => exact ⟨rfl, rfl⟩

/-- FREEZING blocks. -/
theorem freeze_rel (hr : Rel μ base g w) (S : Nat → Prop) : Rel (muF μ g w S) base (gF g S) w := by
  have at' : ∀ {b x}, gF g S b = some x → ∃ x0, g b = some x0 ∧ (x = x0 ∧ ¬ S b ∨ x = roB x0 ∧ S b) := by
    intro b x h
    unfold gF at h
    split at h
    · rename_i hs
      cases e : g b with
      | none => rw [e] at h; cases h
      | some x0 => rw [e] at h; simp at h; exact ⟨x0, rfl, .inr ⟨h.symm, hs⟩⟩
    · rename_i hs
      exact ⟨x, h, .inl ⟨rfl, hs⟩⟩
  have own : ∀ {b x}, gF g S b = some x → ownB x = true → ∃ x0, g b = some x0 ∧ ownB x0 = true ∧ (S b → isRowB x0 = false) := by
    intro b x h ho
    obtain ⟨x0, h0, ⟨rfl, hs⟩ | ⟨rfl, hs⟩⟩ := at' h
    · exact ⟨_, h0, ho, fun h => absurd h hs⟩
    · exact ⟨x0, h0, (own_ro ho).1, fun _ => (own_ro ho).2⟩
  refine ⟨hr.size, fun b p x hb hx => ?_, fun b b' p p' x x' h1 h2 h3 h4 h5 h6 => ?_, fun c i a hc => ⟨?_, fun b p x hb hx ho hcc => ?_⟩⟩
  · obtain ⟨x0, h0, h⟩ := at' hx
    have hb0 := (hr.blk b p x0 hb h0).keep (muF_le hr S) rfl
    rcases h with ⟨rfl, _⟩ | ⟨rfl, _⟩
    · exact hb0
    · exact hb0.ro
  · obtain ⟨x0, h0, ho, _⟩ := own h3 h6
    obtain ⟨x0', h0', _⟩ := at' h4
    exact hr.inj b b' p p' x0 x0' h1 h2 h0 h0' h5 ho
  · have hc : zf μ g w S c i = some a := hc
    unfold zf at hc
    split at hc
    · split at hc
      · rename_i arr e fr he
        exact ⟨arr, e, fr, he, hc⟩
      · cases hc
    · exact (hr.frz c i a hc).1
  · have hc : zf μ g w S c i = some a := hc
    unfold zf at hc
    obtain ⟨x0, h0, ho0, hs0⟩ := own hx ho
    split at hc
    · rename_i hex
      obtain ⟨b1, p1, x1, h1, h2, h3, h4, h5, h6⟩ := hex
      by_cases e : b = b1
      · subst e
        rw [h0] at h3
        simp only [Option.some.injEq] at h3
        subst h3
        rw [hs0 h1] at h4; cases h4.1
      · exact absurd (hcc.trans h5.symm) (hr.inj b b1 p p1 x0 x1 hb h2 h0 h3 e ho0)
    · exact (hr.frz c i a hc).2 b p x0 hb h0 ho0 hcc

theorem freeze_sim (S : Nat → Prop) : ∀ c i a, (muF μ g w S).z c i = some a → μ.z c i = some a ∨ w.heap.size ≤ c ∨ ∃ b0 p0 x0, μ b0 = some p0 ∧ g b0 = some x0 ∧ ownB x0 = true ∧ p0.c = c := by
  intro c i a hc
  have hc : zf μ g w S c i = some a := hc
  unfold zf at hc
  split at hc
  · rename_i hex
    obtain ⟨b1, p1, x1, h1, h2, h3, h4, h5, h6⟩ := hex
    exact .inr (.inr ⟨b1, p1, x1, h2, h3, h4.2, h5⟩)
  · exact .inl hc

theorem norm_raw {deep : Value → Value → Option (List Value)} {z c x : Value} (h : rawCell deep z c = some x) : norm1 z x = x := by
  unfold rawCell at h
  unfold norm1
  split at h
  · split at h
    · split at h
      · simp only [Option.some.injEq] at h; subst h; rfl
      · cases h
    · cases h
  · split at h
    · simp only [Option.some.injEq] at h; subst h; rfl
    · cases h
  · split at h
    · simp only [Option.some.injEq] at h; subst h; rfl
    · split at h
      · simp only [Option.some.injEq] at h; subst h; rfl
      · cases h
    · cases h
  · rename_i f xs0
    split at h
    · rename_i z' hf
      cases e : deep z' c with
      | none => rw [e] at h; cases h
      | some ys =>
        rw [e] at h
        simp only [Option.map_some, Option.some.injEq] at h; subst h
        have : f = #[z'] := by rw [← Array.toList_inj, hf]
        subst this
        rfl
    · cases h
  · split at h
    · rename_i hp
      simp only [Bool.and_eq_true] at hp
      simp only [Option.some.injEq] at h; subst h
      rename_i h1 h2 h3 h4
      split
      · exact absurd rfl (h1 _ _)
      · exact absurd rfl (h2 _)
      · exact absurd rfl (h3 _)
      · exact absurd rfl (h4 _ _)
      · rw [if_pos hp.1]
    · cases h

/-- What a cell stands for. -/
theorem rawCell_ok {fz : Nat → Nat → Option Value} {deep : Value → Value → Option (List Value)} (hd : ∀ {z v v' xs}, deep z v = some xs → VR1 μ v v' → DR fz (dsl z xs) v') {z c x v' : Value} (h : rawCell deep z c = some x) (hr : VR1 μ c v') : DR fz x v' := by
  have den0 : ∀ {u : Value}, Abs.den c = u → plain1 u = true → v' = u := by
    intro u hu hp
    have := VR1.den_iff.2 hr
    rw [hu] at this
    exact this.eq_of_plain hp
  unfold rawCell at h
  split at h
  · split at h
    · rename_i k' n hn
      split at h
      · simp only [Option.some.injEq] at h; subst h
        rename_i hk; subst hk
        rw [den0 hn rfl]; exact .plain rfl
      · cases h
    · cases h
  · split at h
    · rename_i s hs
      simp only [Option.some.injEq] at h; subst h
      rw [den0 hs rfl]; exact .plain rfl
    · cases h
  · split at h
    · simp only [Option.some.injEq] at h; subst h
      rw [hr.eq_of_plain rfl]; exact .plain rfl
    · rename_i f y
      split at h
      · rename_i b hf _
        simp only [Option.some.injEq] at h; subst h
        have : v' = .bool b := by
          cases hr with
          | func h0 _ _ => simp [isYield] at h0
          | zero h0 =>
            have e : f = #[.bool b] := by rw [← Array.toList_inj, hf]
            subst e
            generalize hv : Value.func (Fn.yield 3) #[Value.bool b] y = d at h0
            cases h0 with
            | plain hp => subst hv; simp [plain1] at hp
            | mbool => simp [mkb] at hv; rw [hv.1]
            | mark _ _ => simp [mk] at hv
            | deep _ => simp [dsl] at hv
            | osl _ _ _ => simp [Abs.osq] at hv
            | fptr _ _ _ => simp [Abs.fptr] at hv
            | rptr _ => simp [Abs.rptr] at hv
            | _ => cases hv
        rw [this]; exact .plain rfl
      · cases h
    · cases h
  · rename_i f xs0
    split at h
    · rename_i z' hf
      cases e : deep z' c with
      | none => rw [e] at h; cases h
      | some ys =>
        rw [e] at h
        simp only [Option.map_some, Option.some.injEq] at h; subst h
        exact hd e hr
    · cases h
  · split at h
    · rename_i hp
      simp only [Bool.and_eq_true] at hp
      simp only [Option.some.injEq] at h; subst h
      have := vbeq1_eq hp.2; subst this
      rw [hr.eq_of_plain hp.1]; exact .plain hp.1
    · cases h

theorem cellsN_agg (zs : Array Value) (x : Value) : cellsN (.agg zs) x = zs.toList.zipIdx.map fun p => norm1 p.1 (fld x p.2) := rfl
theorem rawCells_ok {fz : Nat → Nat → Option Value} {deep : Value → Value → Option (List Value)} (hd : ∀ {z v v' xs}, deep z v = some xs → VR1 μ v v' → DR fz (dsl z xs) v') :
    ∀ {zs cs xs r : List Value}, rawCells deep zs cs = some (xs, r) → ∃ used, cs = used ++ r ∧ used.length = xs.length ∧ xs.length = zs.length ∧ (∀ (i : Nat) z x, zs[i]? = some z → xs[i]? = some x → norm1 z x = x) ∧
      ∀ (i : Nat) x u v', xs[i]? = some x → used[i]? = some u → VR1 μ u v' → DR fz x v'
  | [], cs, xs, r, h => by
    simp only [rawCells, Option.some.injEq, Prod.mk.injEq] at h
    obtain ⟨rfl, rfl⟩ := h
    exact ⟨[], rfl, rfl, rfl, fun i z x hz => by simp at hz, fun i x u v' hx => by simp at hx⟩
  | z :: zs, [], xs, r, h => by simp [rawCells] at h
  | z :: zs, c :: cs, xs, r, h => by
    unfold rawCells at h
    split at h
    · rename_i x hx
      split at h
      · rename_i xs' r' hxs
        simp only [Option.some.injEq, Prod.mk.injEq] at h
        obtain ⟨rfl, rfl⟩ := h
        obtain ⟨used, rfl, h1, h2, h3, h4⟩ := rawCells_ok hd hxs
        refine ⟨c :: used, rfl, by simp [h1], by simp [h2], fun i z' x' hz' hx' => ?_, fun i x' u v' hx' hu hv => ?_⟩
        · cases i with
          | zero => simp at hz' hx'; subst hz'; subst hx'; exact norm_raw hx
          | succ i => exact h3 i z' x' (by simpa using hz') (by simpa using hx')
        · cases i with
          | zero => simp at hx' hu; subst hx'; subst hu; exact rawCell_ok hd hx hv
          | succ i => exact h4 i x' u v' (by simpa using hx') (by simpa using hu) hv
      · cases h
    · cases h
theorem rawElem_ok {fz : Nat → Nat → Option Value} {deep : Value → Value → Option (List Value)} (hd : ∀ {z v v' xs}, deep z v = some xs → VR1 μ v v' → DR fz (dsl z xs) v') {z x : Value} {cs r : List Value} (h : rawElem deep z cs = some (x, r)) :
    ∃ used, cs = used ++ r ∧ used.length = (cellsN z x).length ∧ ∀ (i : Nat) y u v', (cellsN z x)[i]? = some y → used[i]? = some u → VR1 μ u v' → DR fz y v' := by
  unfold rawElem at h
  split at h
  · rename_i zs
    split at h
    · rename_i xs r' hxs
      simp only [Option.some.injEq, Prod.mk.injEq] at h
      obtain ⟨rfl, rfl⟩ := h
      obtain ⟨used, rfl, h1, h2, h3, h4⟩ := rawCells_ok hd hxs
      have hc : cellsN (.agg zs) (.agg xs.toArray) = xs := by
        rw [cellsN_agg]
        refine List.ext_getElem? fun i => ?_
        rw [List.getElem?_map, List.getElem?_zipIdx]
        cases hz : zs.toList[i]? with
        | none =>
          rw [List.getElem?_eq_none_iff] at hz
          rw [List.getElem?_eq_none (by omega)]; rfl
        | some z =>
          have hlt := (List.getElem?_eq_some_iff.1 hz).1
          have hx := List.getElem?_eq_getElem (l := xs) (i := i) (by omega)
          rw [hx]
          simp only [Option.map_some, Nat.zero_add]
          have : fld (.agg xs.toArray) i = xs[i]'(by omega) := by
            unfold fld Value.cells
            rw [Array.getD_eq_getD_getElem?, List.getElem?_toArray, hx]; rfl
          rw [this, h3 i z _ hz hx]
      rw [hc]
      exact ⟨used, rfl, h1, h4⟩
    · cases h
  · rename_i hna
    split at h
    · rename_i c r'
      cases e : rawCell deep z c with
      | none => rw [e] at h; cases h
      | some x' =>
        rw [e] at h
        simp only [Option.map_some, Option.some.injEq, Prod.mk.injEq] at h
        obtain ⟨rfl, rfl⟩ := h
        have hc : cellsN z x' = [x'] := by
          unfold cellsN
          split
          · exact absurd rfl (hna _)
          · rw [norm_raw e]
        rw [hc]
        refine ⟨[c], rfl, rfl, fun i y u v' hy hu hv => ?_⟩
        cases i with
        | zero => simp at hy hu; subst hy; subst hu; exact rawCell_ok hd e hv
        | succ i => simp at hy
    · cases h
theorem rawElems_ok {fz : Nat → Nat → Option Value} {deep : Value → Value → Option (List Value)} (hd : ∀ {z v v' xs}, deep z v = some xs → VR1 μ v v' → DR fz (dsl z xs) v') {z : Value} : ∀ {m : Nat} {cs xs : List Value}, rawElems deep z m cs = some xs →
    xs.length = m ∧ (flatN z xs).length ≤ cs.length ∧ ∀ (i : Nat) y u v', (flatN z xs)[i]? = some y → cs[i]? = some u → VR1 μ u v' → DR fz y v'
  | 0, cs, xs, h => by
    simp only [rawElems, Option.some.injEq] at h; subst h
    exact ⟨rfl, by simp [flatN], fun i y u v' hy => by simp [flatN] at hy⟩
  | m + 1, cs, xs, h => by
    unfold rawElems at h
    split at h
    · rename_i x r hx
      split at h
      · rename_i xs' hxs
        simp only [Option.some.injEq] at h; subst h
        obtain ⟨used, rfl, h1, h2⟩ := rawElem_ok hd hx
        obtain ⟨h3, h4, h5⟩ := rawElems_ok hd hxs
        have hf : flatN z (x :: xs') = cellsN z x ++ flatN z xs' := rfl
        refine ⟨by simp [h3], by rw [hf, List.length_append, List.length_append]; omega, fun i y u v' hy hu hv => ?_⟩
        rw [hf, List.getElem?_append] at hy
        rw [List.getElem?_append] at hu
        split at hy
        · rename_i hi
          rw [if_pos (by omega)] at hu
          exact h2 i y u v' hy hu hv
        · rename_i hi
          rw [if_neg (by omega)] at hu
          rw [← h1] at hy
          exact h5 _ y u v' hy hu hv
      · cases h
    · cases h

/-- A SLICE AS IMMUTABLE DATA. -/
theorem deepV_ok {h : Hp} {ok : Nat → Bool} {S : Nat → Prop} (hS : ∀ b, ok b = true → S b) (hr : Rel μ base h.get w) : ∀ (n : Nat) {z v v' : Value} {xs : List Value}, deepV h ok n z v = some xs → VR1 μ v v' → DR (zf μ h.get w S) (dsl z xs) v'
  | 0, z, v, v', xs, hd, hv => by simp [deepV] at hd
  | n + 1, z, v, v', xs, hd, hv => by
    have ih := fun {z v v' xs} => deepV_ok hS hr n (z := z) (v := v) (v' := v') (xs := xs)
    have hle := muF_le hr S
    unfold deepV at hd
    split at hd
    · rename_i f ys
      split at hd
      · rename_i z0 hf
        split at hd
        · rename_i hz
          simp only [Option.some.injEq] at hd; subst hd
          have := zeq_eq hz; subst this
          have hf : f = #[z0] := by rw [← Array.toList_inj, hf]
          subst hf
          have e : Value.func (Fn.yield 1) #[z0] ys = dsl z0 ys.toList := by simp [dsl]
          rw [e] at hv
          have h0 := hv.zero_of_basic rfl
          generalize hg : dsl z0 ys.toList = d at h0
          cases h0 with
          | deep hd => exact hd.mono hle.z
          | plain hp => subst hg; simp [not_plain_dsl] at hp
          | mark _ _ => simp [dsl, mk] at hg
          | osl _ _ _ => simp [Abs.osq, dsl] at hg
          | fptr _ _ _ => simp [Abs.fptr, dsl] at hg
          | rptr _ => simp [Abs.rptr, dsl] at hg
          | mbool => simp [mkb, dsl] at hg
          | _ => cases hg
        · cases hd
      · cases hd
    · rename_i f ys
      split at hd
      · rename_i z0 b q hf
        split at hd
        · rename_i hz
          simp only [Option.some.injEq] at hd; subst hd
          have := zeq_eq hz; subst this
          have hf : f = #[z0, .slice none b q] := by rw [← Array.toList_inj, hf]
          subst hf
          have e : Value.func (Fn.yield 5) #[z0, .slice none b q] ys = osq z0 ys.toList b q := by simp [osq]
          rw [e] at hv
          have h0 := hv.zero_of_basic rfl
          generalize hg : osq z0 ys.toList b q = d at h0
          cases h0 with
          | osl hd h1 h2 =>
            simp [Abs.osq] at hg
            obtain ⟨⟨rfl, rfl, rfl⟩, h3⟩ := hg
            subst h3
            have := hd.mono hle.z
            simpa [muF] using this
          | plain hp => subst hg; simp [plain1, Abs.osq] at hp
          | mark _ _ => simp [Abs.osq, mk] at hg
          | deep _ => simp [Abs.osq, dsl] at hg
          | fptr _ _ _ => simp [Abs.fptr, Abs.osq] at hg
          | rptr _ => simp [Abs.rptr, Abs.osq] at hg
          | mbool => simp [mkb, Abs.osq] at hg
          | _ => cases hg
        · cases hd
      · cases hd
    · simp only [Option.some.injEq] at hd; subst hd
      rw [hv.eq_of_plain rfl]
      exact .nil
    · split at hd
      · rename_i b o m k hden
        split at hd
        · rename_i cs hb
          split at hd
          · rename_i hok
            have h0 := VR1.den_iff.2 hv
            rw [hden] at h0
            obtain ⟨h1, h2, h3⟩ := rawElems_ok (μ := μ) (fz := zf μ h.get w S) (deep := deepV h ok n) (fun {z v v' xs} => ih) hd
            rcases (VR.one h0).inv_slice with ⟨p, k', hp, rfl, hlk, _⟩ | ⟨rfl, _, a', ⟨p, hp⟩, rfl⟩
            · obtain ⟨arr, e, fr, h4, h5, h6, h7⟩ := hr.blk b p _ hp hb
              have cell : ∀ i y, (flatN z xs)[i]? = some y → ∃ u v', cs[o + i]? = some u ∧ arr[p.s + (o + i)]? = some v' ∧ VR1 μ u v' := by
                intro i y hy
                have hi := (List.getElem?_eq_some_iff.1 hy).1
                rw [List.length_drop] at h2
                have hu := List.getElem?_eq_getElem (l := cs) (i := o + i) (by omega)
                obtain ⟨v', h8, h9⟩ := h6 _ _ hu
                exact ⟨_, v', hu, h8, h9⟩
              refine .sl (fun i => arr.getD (p.s + (o + i)) (.bool false)) h1 hlk (fun i y hy => ?_) (fun i y hy => ?_)
              · obtain ⟨u, v', hu, ha, hv⟩ := cell i y hy
                unfold zf
                rw [if_pos ⟨b, p, _, hS b hok, hp, hb, ⟨rfl, rfl⟩, rfl, by omega⟩, h4]
                show arr[o + p.s + i]? = _
                rw [Array.getD_eq_getD_getElem?, ha, show o + p.s + i = p.s + (o + i) from by omega, ha]; rfl
              · obtain ⟨u, v', hu, ha, hv⟩ := cell i y hy
                rw [Array.getD_eq_getD_getElem?, ha]
                exact h3 i y u v' hy (by rw [List.getElem?_drop]; exact hu) hv
            · have : xs = [] := List.eq_nil_of_length_eq_zero h1
              subst this
              exact .nil
          · cases hd
        · cases hd
      · cases hd
theorem deepV_one {h : Hp} {ok : Nat → Bool} {n : Nat} {z v : Value} {xs : List Value} (hd : deepV h ok n z v = some xs) : v.oneCell' = true := by
  cases n with
  | zero => simp [deepV] at hd
  | succ n =>
    cases v <;> first | rfl | skip
    all_goals simp [deepV, den] at hd
theorem norm1_kind (z x : Value) : plain1 (norm1 z x) = true ∨ ∃ z' xs, norm1 z x = dsl z' xs ∨ ∃ f, norm1 z x = .func (.yield 1) f xs.toArray := by
  unfold norm1
  split
  · exact .inl rfl
  · exact .inl rfl
  · exact .inl rfl
  · rename_i f _
    exact .inr ⟨.bool false, dels x, .inr ⟨f, rfl⟩⟩
  · split
    · rename_i h; exact .inl h
    · exact .inl rfl
/-- What stands for a value of a row still does, where more is frozen. -/
theorem VR1.yield1 {μ μ' : Mu} {f ys : Array Value} {v' : Value} (hz : ∀ c i a, μ.z c i = some a → μ'.z c i = some a) (h : VR1 μ (.func (.yield 1) f ys) v') : VR1 μ' (.func (.yield 1) f ys) v' := by
  have h0 := h.zero_of_basic rfl
  generalize hg : Value.func (Fn.yield 1) f ys = d at h0
  cases h0 with
  | deep hd => exact .zero (.deep (hd.mono hz))
  | plain hp => exact .zero (.plain hp)
  | mark _ _ => simp [mk] at hg
  | osl _ _ _ => simp [Abs.osq] at hg
  | fptr _ _ _ => simp [Abs.fptr] at hg
  | rptr _ => simp [Abs.rptr] at hg
  | mbool => simp [mkb] at hg
  | _ => cases hg
theorem VR1.norm1 {μ μ' : Mu} {z x v' : Value} (hz : ∀ c i a, μ.z c i = some a → μ'.z c i = some a) (h : VR1 μ (norm1 z x) v') : VR1 μ' (Abs.norm1 z x) v' := by
  rcases norm1_kind z x with hp | ⟨z', xs, e | ⟨f, e⟩⟩
  · rw [h.eq_of_plain hp]; exact .refl_plain hp
  · rw [e] at h ⊢; exact VR1.yield1 hz h
  · rw [e] at h ⊢; exact VR1.yield1 hz h
theorem mem_flatN {z v : Value} {xs : List Value} (h : v ∈ flatN z xs) : ∃ z' x', v = Abs.norm1 z' x' := by
  obtain ⟨x, _, hx⟩ := List.mem_flatMap.1 h
  unfold cellsN at hx
  split at hx
  · obtain ⟨p, _, rfl⟩ := List.mem_map.1 hx
    exact ⟨_, _, rfl⟩
  · rw [List.mem_singleton.1 hx]; exact ⟨_, _, rfl⟩
theorem row_keep {μ μ' : Mu} {r : Row} {v v' : Value} (hz : ∀ c i a, μ.z c i = some a → μ'.z c i = some a) (hm : v ∈ r.cells) (h : VR1 μ v v') : VR1 μ' v v' := by
  cases r with
  | ints k xs => obtain ⟨_, _, rfl⟩ := List.mem_map.1 hm; rw [h.eq_of_plain rfl]; exact .refl_plain rfl
  | bools xs => obtain ⟨_, _, rfl⟩ := List.mem_map.1 hm; rw [h.eq_of_plain rfl]; exact .refl_plain rfl
  | strs xs => obtain ⟨_, _, rfl⟩ := List.mem_map.1 hm; rw [h.eq_of_plain rfl]; exact .refl_plain rfl
  | pairs xs =>
    obtain ⟨_, _, he⟩ := List.mem_flatMap.1 hm
    simp at he
    rcases he with rfl | rfl <;> (rw [h.eq_of_plain rfl]; exact .refl_plain rfl)
  | vals z xs => obtain ⟨z', x', rfl⟩ := mem_flatN hm; exact h.norm1 hz
end
end Go.Abs
end
section
namespace Go.Abs
open Go

noncomputable section

/-- What fills a hole. -/
inductive Filler where
  | val (v : Value)
  | row (r : Row)
  | sl (o n : Nat)
  | dl (xs : List Value)
  | me (es : List (Value × Value))

/-- Values of one cell: told; a number, a text; a pointer; a slice of unknown length; a slice; a map. -/
inductive S0 where
  | lit (v : Value)
  | hole
  | ptr (j o : Nat)
  | sl (j cap : Nat)
  | csl (j o n cap : Nat)
  | map (j : Nat)
  | deep (z : Value)
  | osl (j : Nat) (z : Value)
  | boo
inductive S1 where
  | zero (s : S0)
  | func (f : Fn) (a b : List S0)
  | iface (t : TypeId) (s : S0)
inductive SA where
  | one (s : S1)
  | agg (l : List S1)
structure SE where
  key : Value
  born : Nat
  val : SA
inductive SB where
  | cells (l : List S1) (ro : Bool)
  | row (like : Row) (ro : Bool)
  | map (l : List SE) (clock : Nat)
  | tok
  | smap (kz vz : Value)
structure Shape where
  slots : List (Option SA)
  blocks : List (Option SB)

def isScal : Value → Bool
  | .int .. | .float .. | .complex .. | .string _ => true
  | _ => false

abbrev Rho := List Nat
abbrev DV := Value → Value → Option (List Value)

def S0.mat (dv : DV) (ρ : Rho) (s : S0) (v : Value) : Option (List Filler) :=
  match s with
  | .lit u => if plain1 u && vbeq1 u v then some [] else none
  | .hole => if isScal (den v) then some [.val (den v)] else none
  | .ptr j o => match v with
    | .pointer (some ⟨b, o', none⟩) => if o = o' ∧ ρ[j]? = some b then some [] else none
    | _ => none
  | .sl j cap => match den v with
    | .slice (some ⟨b, o, none⟩) n k => if ρ[j]? = some b ∧ (k = cap ∨ (k = 0 ∧ UNK0 ≤ cap)) then some [.sl o n] else none
    | _ => none
  | .csl j o n cap => match v with
    | .slice (some ⟨b, o', none⟩) n' k => if o = o' ∧ n = n' ∧ k = cap ∧ ρ[j]? = some b then some [] else none
    | _ => none
  | .map j => match v with
    | .map (some b) => if ρ[j]? = some b then some [] else none
    | _ => none
  | .deep z => (dv z v).map fun xs => [.dl xs]
  | .osl j z => match v with
    | .func (.yield 5) f xs => match f.toList with
      | [z0, .slice none b 0] => if zeq 5 z0 z && ρ[j]? == some b then some [.dl xs.toList] else none
      | [z0, .slice none _ 1] => if zeq 5 z0 z then some [.dl xs.toList] else none
      | _ => none
    | .slice none 0 0 => some [.dl []]
    | _ => none
  | .boo => match v with
    | .bool b => some [.val (.bool b)]
    | .func (.yield 3) f _ => match f.toList with
      | [.bool b] => some [.val (.bool b)]
      | _ => none
    | _ => none
def S0.fill (f : Nat → Nat) (s : S0) (fs : List Filler) : Option (Value × List Filler) :=
  match s, fs with
  | .lit u, fs => if plain1 u then some (u, fs) else none
  | .hole, .val v :: r => if isScal v then some (mk v, r) else none
  | .ptr j o, fs => some (.pointer (some ⟨f j, o, none⟩), fs)
  | .sl j cap, .sl o n :: r => some (mk (.slice (some ⟨f j, o, none⟩) n cap), r)
  | .csl j o n cap, fs => some (.slice (some ⟨f j, o, none⟩) n cap, fs)
  | .map j, fs => some (.map (some (f j)), fs)
  | .deep z, .dl xs :: r => some (dsl z xs, r)
  | .osl j z, .dl xs :: r => some (Abs.osl z xs (f j), r)
  | .boo, .val v :: r => some (mkb (dbool v), r)
  | _, _ => none

/-- Of a list, one behind the other. -/
def matL {α : Type} (m : α → Value → Option (List Filler)) : List α → List Value → Option (List Filler)
  | [], [] => some []
  | a :: l, v :: vs => match m a v, matL m l vs with
    | some x, some y => some (x ++ y)
    | _, _ => none
  | _, _ => none
def fillL {α β : Type} (f : α → List Filler → Option (β × List Filler)) : List α → List Filler → Option (List β × List Filler)
  | [], fs => some ([], fs)
  | a :: l, fs => match f a fs with
    | some (b, fs) => match fillL f l fs with
      | some (bs, fs) => some (b :: bs, fs)
      | none => none
    | none => none

def S1.mat (dv : DV) (ρ : Rho) (s : S1) (v : Value) : Option (List Filler) :=
  match s with
  | .zero s => s.mat dv ρ v
  | .func f a b => match v with
    | .func f' x y => if !isYield f && decide (f = f') then match matL (S0.mat dv ρ) a x.toList, matL (S0.mat dv ρ) b y.toList with
      | some p, some q => some (p ++ q)
      | _, _ => none
      else none
    | _ => none
  | .iface t s => match v with
    | .iface t' v => if t = t' then s.mat dv ρ v else none
    | _ => none
def S1.fill (g : Nat → Nat) (s : S1) (fs : List Filler) : Option (Value × List Filler) :=
  match s with
  | .zero s => s.fill g fs
  | .func f a b => if isYield f then none else match fillL (S0.fill g) a fs with
    | some (x, fs) => match fillL (S0.fill g) b fs with
      | some (y, fs) => some (.func f x.toArray y.toArray, fs)
      | none => none
    | none => none
  | .iface t s => match s.fill g fs with
    | some (v, fs) => some (.iface t v, fs)
    | none => none
def SA.mat (dv : DV) (ρ : Rho) (s : SA) (v : Value) : Option (List Filler) :=
  match s with
  | .one s => s.mat dv ρ v
  | .agg l => match v with
    | .agg cs => matL (S1.mat dv ρ) l cs.toList
    | _ => none
def SA.fill (g : Nat → Nat) (s : SA) (fs : List Filler) : Option (Value × List Filler) :=
  match s with
  | .one s => s.fill g fs
  | .agg l => match fillL (S1.fill g) l fs with
    | some (x, fs) => some (.agg x.toArray, fs)
    | none => none
def slotMat (dv : DV) (ρ : Rho) (s : Option SA) (v : Value) : Option (List Filler) :=
  match s with
  | none => some []
  | some s => s.mat dv ρ v
def slotFill (g : Nat → Nat) (s : Option SA) (fs : List Filler) : Option (Value × List Filler) :=
  match s with
  | none => some (dead, fs)
  | some s => s.fill g fs

def entryMat (dv : DV) (ρ : Rho) (s : SE) (e : MapEntry) : Option (List Filler) :=
  if plain1 s.key && vbeq1 s.key e.key && s.born == e.born then s.val.mat dv ρ e.val else none
def entriesMat (dv : DV) (ρ : Rho) : List SE → List MapEntry → Option (List Filler)
  | [], [] => some []
  | a :: l, v :: vs => match entryMat dv ρ a v, entriesMat dv ρ l vs with
    | some x, some y => some (x ++ y)
    | _, _ => none
  | _, _ => none
def entryFill (g : Nat → Nat) (s : SE) (fs : List Filler) : Option (MapEntry × List Filler) :=
  match s.val.fill g fs with
  | some (v, fs) => some ({ key := s.key, val := v, born := s.born }, fs)
  | none => none

def roOk (wk ro ro' : Bool) : Bool := ro == ro' || (wk && ro)
def SB.mat (dv : DV) (wk : Bool) (ρ : Rho) (s : SB) (x : Blk) : Option (List Filler) :=
  match s, x with
  | .cells l ro, .cells cs ro' => if roOk wk ro ro' then matL (S1.mat dv ρ) l cs else none
  | .row _ ro, .row r ro' => if roOk wk ro ro' then some [.row r] else none
  | .row like ro, .cells cs ro' => if roOk wk ro ro' then (rowLike like cs).map fun r => [.row r] else none
  | .map l ck, .map es ck' => if ck = ck' then entriesMat dv ρ l es else none
  | .tok, .cells [] false => some []
  | .smap kz vz, .smap kz' vz' es => if zeq 5 kz kz' && zeq 5 vz vz' then some [.me es] else none
  | .smap kz _, .map [] _ => if isKeyZ kz then some [.me []] else none
  | _, _ => none
def SB.fill (g : Nat → Nat) (s : SB) (fs : List Filler) : Option (Blk × List Filler) :=
  match s with
  | .cells l ro => match fillL (S1.fill g) l fs with
    | some (x, fs) => some (.cells x ro, fs)
    | none => none
  | .row _ ro => match fs with
    | .row r :: fs => some (.row r ro, fs)
    | _ => none
  | .map l ck => match fillL (entryFill g) l fs with
    | some (x, fs) => some (.map x ck, fs)
    | none => none
  | .tok => some (.cells [] false, fs)
  | .smap kz vz => match fs with
    | .me es :: fs => some (.smap kz vz es, fs)
    | _ => none
def SB.isTok : SB → Bool
  | .tok => true
  | _ => false
def blockMat (dv : DV) (wk : Bool) (ρ : Rho) (h : Hp) (s : Option SB) (b : Nat) : Option (List Filler) :=
  match s with
  | none => some []
  | some s => match h.get b with
    | some x => s.mat dv wk ρ x
    | none => if s.isTok && decide (h.next ≤ b) then some [] else none
def blocksMat (dv : DV) (wk : Bool) (ρ : Rho) (h : Hp) : List (Option SB) → List Nat → Option (List Filler)
  | [], [] => some []
  | a :: l, v :: vs => match blockMat dv wk ρ h a v, blocksMat dv wk ρ h l vs with
    | some x, some y => some (x ++ y)
    | _, _ => none
  | _, _ => none
def blockFill (g : Nat → Nat) (s : Option SB) (fs : List Filler) : Option (Option Blk × List Filler) :=
  match s with
  | none => some (none, fs)
  | some s => match s.fill g fs with
    | some (x, fs) => some (some x, fs)
    | none => none

/-- A heap of such blocks. -/
def Hp.pushO (h : Hp) (x : Option Blk) : Hp := ⟨h.next + 1, Tr.put (h.next + 1) h.tab h.next x⟩
def Hp.from (h : Hp) : List (Option Blk) → Hp
  | [] => h
  | x :: l => (h.pushO x).from l

theorem Hp.get_pushO (h : Hp) (x : Option Blk) (b : Nat) : (h.pushO x).get b = if b = h.next then x else h.get b := by
  unfold Hp.get Hp.pushO
  simp only [Tr.get_put _ _ _ _ _ (Nat.lt_succ_self h.next)]
  by_cases e : b = h.next
  · subst e; simp
  · by_cases hl : b < h.next
    · simp [e, hl]; omega
    · simp [e, hl]; omega
theorem Hp.from_next : ∀ (l : List (Option Blk)) (h : Hp), (h.from l).next = h.next + l.length
  | [], h => by show h.next = _; simp
  | x :: l, h => by
    show ((h.pushO x).from l).next = _
    rw [Hp.from_next l, List.length_cons]; show h.next + 1 + l.length = _; omega
theorem Hp.from_get : ∀ (l : List (Option Blk)) (h : Hp) (b : Nat), (h.from l).get b = if b < h.next then h.get b else (l[b - h.next]?).join
  | [], h, b => by
    show h.get b = _
    split
    · rfl
    · unfold Hp.get; rw [if_neg (by assumption)]; simp
  | x :: l, h, b => by
    show ((h.pushO x).from l).get b = _
    rw [Hp.from_get l]
    have hn : (h.pushO x).next = h.next + 1 := rfl
    rw [hn]
    by_cases h1 : b < h.next
    · rw [if_pos (by omega), if_pos h1, Hp.get_pushO, if_neg (by omega)]
    · rw [if_neg h1]
      by_cases h2 : b = h.next
      · subst h2
        rw [if_pos (by omega), Hp.get_pushO, if_pos rfl, Nat.sub_self]; rfl
      · rw [if_neg (by omega), show b - h.next = (b - (h.next + 1)) + 1 from by omega, List.getElem?_cons_succ]

def hpOf (l : List (Option Blk)) : Hp := Hp.from ⟨0, .leaf⟩ l
theorem hpOf_next (l : List (Option Blk)) : (hpOf l).next = l.length := by
  unfold hpOf; rw [Hp.from_next]; simp
theorem hpOf_get (l : List (Option Blk)) (b : Nat) : (hpOf l).get b = (l[b]?).join := by
  unfold hpOf; rw [Hp.from_get]; simp

/-- Which blocks may be frozen: those that are not kept as the state's own. -/
def okF (ρ : Rho) (b : Nat) : Bool := !ρ.contains b
/-- Has a state a shape? What fills it. -/
def Shape.matD (dv : DV) (wk : Bool) (sh : Shape) (ρ : Rho) (s : St) : Option (List Filler) :=
  match matL (slotMat dv ρ) sh.slots s.tmps, blocksMat dv wk ρ s.h sh.blocks ρ with
  | some x, some y => some (x ++ y)
  | _, _ => none
def Shape.mat (wk : Bool) (sh : Shape) (ρ : Rho) (s : St) : Option (List Filler) := sh.matD (deepV s.h (okF ρ) 6) wk ρ s
def Shape.fill (sh : Shape) (fs : List Filler) : Option St :=
  match fillL (slotFill id) sh.slots fs with
  | some (tmps, fs) => match fillL (blockFill id) sh.blocks fs with
    | some (bs, _) => some ⟨tmps, hpOf bs⟩
    | none => none
  | none => none

/-- Which blocks a state's own are, told by its shape: found by walking both. -/
abbrev Found := List (Option Nat)
def S0.find (s : S0) (v : Value) (acc : Found) : Found :=
  match s with
  | .ptr j _ => match v with
    | .pointer (some a) => acc.set j (some a.block)
    | _ => acc
  | .sl j _ => match den v with
    | .slice (some a) _ _ => acc.set j (some a.block)
    | _ => acc
  | .csl j _ _ _ => match v with
    | .slice (some a) _ _ => acc.set j (some a.block)
    | _ => acc
  | .map j => match v with
    | .map (some b) => acc.set j (some b)
    | _ => acc
  | .osl j _ => match v with
    | .func (.yield 5) f _ => match f.toList with
      | [_, .slice none b 0] => acc.set j (some b)
      | _ => acc
    | _ => acc
  | _ => acc
def findL {α : Type} (f : α → Value → Found → Found) : List α → List Value → Found → Found
  | a :: l, v :: vs, acc => findL f l vs (f a v acc)
  | _, _, acc => acc
def S1.find (s : S1) (v : Value) (acc : Found) : Found :=
  match s with
  | .zero s => s.find v acc
  | .func _ a b => match v with
    | .func _ x y => findL S0.find b y.toList (findL S0.find a x.toList acc)
    | _ => acc
  | .iface _ s => match v with
    | .iface _ v => s.find v acc
    | _ => acc
def SA.find (s : SA) (v : Value) (acc : Found) : Found :=
  match s with
  | .one s => s.find v acc
  | .agg l => match v with
    | .agg cs => findL S1.find l cs.toList acc
    | _ => acc
def slotFind (s : Option SA) (v : Value) (acc : Found) : Found :=
  match s with
  | none => acc
  | some s => s.find v acc
def entriesFind : List SE → List MapEntry → Found → Found
  | a :: l, e :: es, acc => entriesFind l es (a.val.find e.val acc)
  | _, _, acc => acc
def SB.find (s : SB) (x : Blk) (acc : Found) : Found :=
  match s, x with
  | .cells l _, .cells cs _ => findL S1.find l cs acc
  | .map l _, .map es _ => entriesFind l es acc
  | _, _ => acc
def blocksFind (h : Hp) : List (Option SB) → Nat → Found → Found
  | [], _, acc => acc
  | s :: l, j, acc => blocksFind h l (j + 1) (match s, (acc[j]?).join with
    | some s, some b => match h.get b with
      | some x => s.find x acc
      | none => acc
    | _, _ => acc)
/-- k: the blocks that are protected. -/
def Shape.find (sh : Shape) (k : Nat) (s : St) : Rho :=
  (blocksFind s.h sh.blocks 0 (findL slotFind sh.slots s.tmps ((List.range sh.blocks.length).map fun i => if i < k then some i else none))).zipIdx.map fun p => p.1.getD (s.h.next + p.2)
/-- Slots by number. -/
def slotsOf (n : Nat) (l : List (Nat × SA)) : List (Option SA) := (List.range n).map fun i => (l.find? fun x => x.1 == i).map (·.2)
end

section
variable {μ : Mu} {ρ : Rho} {dv : DV} {z1 : Nat → Nat → Option Value}

/-- The places of a shape's blocks. -/
def muOf (μ : Mu) (z1 : Nat → Nat → Option Value) (ρ : Rho) : Mu := ⟨fun j => (ρ[j]?).bind μ, z1⟩

theorem vbeq1_plain {u v : Value} (h : vbeq1 u v = true) : u = v := vbeq1_eq h

theorem isScal_mark {v : Value} (h : isScal v = true) : markable v = true ∧ plain1 v = true := by cases v <;> first | (simp [isScal] at h; done) | exact ⟨rfl, rfl⟩

theorem VR0.den {v v' : Value} (h : VR0 μ v v') : VR0 μ (Abs.den v) v' := by
  rcases den_cases v with e | ⟨w, rfl, hm, e⟩
  · rw [e]; exact h
  · rw [e]
    cases h with
    | mark h _ => exact h
    | plain hp => simp [Abs.plain1, mk] at hp

theorem mkb_inv {f y : Array Value} {b : Bool} {v' : Value} (hf : f.toList = [.bool b]) (h0 : VR0 μ (.func (.yield 3) f y) v') : v' = .bool b := by
  have e : f = #[.bool b] := by rw [← Array.toList_inj, hf]
  subst e
  generalize hv : Value.func (Fn.yield 3) #[Value.bool b] y = d at h0
  cases h0 with
  | plain hp => subst hv; simp [plain1] at hp
  | mbool => simp [mkb] at hv; rw [hv.1]
  | mark _ _ => simp [mk] at hv
  | deep _ => simp [dsl] at hv
  | osl _ _ _ => simp [Abs.osq] at hv
  | fptr _ _ _ => simp [Abs.fptr] at hv
  | rptr _ => simp [Abs.rptr] at hv
  | _ => cases hv
/-- What is frozen, and what that makes of slices. -/
structure DvOk (μ : Mu) (dv : DV) (z1 : Nat → Nat → Option Value) : Prop where
  le : ∀ c i a, μ.z c i = some a → z1 c i = some a
  ok : ∀ {z v v' xs}, dv z v = some xs → VR1 μ v v' → DR z1 (dsl z xs) v'
  one : ∀ {z v xs}, dv z v = some xs → v.oneCell' = true
theorem DvOk.not {z v : Value} (hD : DvOk μ dv z1) (h : v.oneCell' = false) : dv z v = none := by
  cases e : dv z v with
  | none => rfl
  | some xs => rw [hD.one e] at h; cases h
theorem s0_ok0 (hD : DvOk μ dv z1) {s : S0} {v v' : Value} {fs : List Filler} (h : s.mat dv ρ v = some fs) (r : VR0 μ v v') (rest : List Filler) : ∃ v0, s.fill id (fs ++ rest) = some (v0, rest) ∧ VR0 (muOf μ z1 ρ) v0 v' := by
  unfold S0.mat at h
  split at h
  · split at h
    · rename_i hc
      simp only [Bool.and_eq_true] at hc
      simp only [Option.some.injEq] at h; subst h
      have := vbeq1_plain hc.2; subst this
      have := r.eq_of_plain hc.1; subst this
      exact ⟨_, if_pos hc.1, .plain hc.1⟩
    · cases h
  · split at h
    · rename_i hs
      simp only [Option.some.injEq] at h; subst h
      obtain ⟨hm, hp⟩ := isScal_mark hs
      have := r.den.eq_of_plain hp
      exact ⟨_, if_pos hs, .mark (by rw [this]; exact .plain hp) hm⟩
    · cases h
  · split at h
    · rename_i b o'
      split at h
      · rename_i hc
        simp only [Option.some.injEq] at h; subst h
        obtain ⟨rfl, hj⟩ := hc
        cases r with
        | ptr hp => exact ⟨_, rfl, .ptr (by unfold muOf; simp only [id, hj]; exact hp)⟩
        | plain hp => simp [plain1] at hp
      · cases h
    · cases h
  · split at h
    · rename_i b o n k hd
      split at h
      · rename_i hc
        simp only [Option.some.injEq] at h; subst h
        obtain ⟨hj, hk⟩ := hc
        have r := r.den
        rw [hd] at r
        refine ⟨_, rfl, .mark ?_ rfl⟩
        rcases hk with rfl | ⟨rfl, hcap⟩
        · cases r with
          | slice hp h1 h2 => exact .slice (by unfold muOf; simp only [id, hj]; exact hp) h1 h2
          | slice0 hp h1 => exact .slice0 (by unfold muOf; simp only [id, hj]; exact hp) h1
          | plain hp => simp [plain1] at hp
        · cases r with
          | slice hp h1 h2 =>
            rcases h2 with ⟨h3, _⟩ | ⟨h3, _⟩
            · exact absurd h3 (by decide)
            · subst h3
              have h4 : n = 0 := by omega
              subst h4
              exact .slice0 (by unfold muOf; simp only [id, hj]; exact hp) (.inl hcap)
          | slice0 hp h1 => exact .slice0 (by unfold muOf; simp only [id, hj]; exact hp) (.inl hcap)
          | plain hp => simp [plain1] at hp
      · cases h
    · cases h
  · split at h
    · rename_i b o' n' k
      split at h
      · rename_i hc
        simp only [Option.some.injEq] at h; subst h
        obtain ⟨rfl, rfl, rfl, hj⟩ := hc
        refine ⟨_, rfl, ?_⟩
        cases r with
        | slice hp h1 h2 => exact .slice (by unfold muOf; simp only [id, hj]; exact hp) h1 h2
        | slice0 hp h1 => exact .slice0 (by unfold muOf; simp only [id, hj]; exact hp) h1
        | plain hp => simp [plain1] at hp
      · cases h
    · cases h
  · split at h
    · rename_i b
      split at h
      · rename_i hj
        simp only [Option.some.injEq] at h; subst h
        cases r with
        | map hp => exact ⟨_, rfl, .map (by unfold muOf; simp only [id, hj]; exact hp)⟩
        | plain hp => simp [plain1] at hp
      · cases h
    · cases h
  · rename_i z
    cases e : dv z v with
    | none => rw [e] at h; cases h
    | some xs =>
      rw [e] at h
      simp only [Option.map_some, Option.some.injEq] at h; subst h
      exact ⟨_, rfl, .deep (hD.ok e (.zero r))⟩
  · rename_i j z
    split at h
    · rename_i f ys
      split at h
      · rename_i z0 b hf
        split at h
        · rename_i hc
          simp only [Option.some.injEq] at h; subst h
          simp only [Bool.and_eq_true, beq_iff_eq] at hc
          obtain ⟨hz, hj⟩ := hc
          have := zeq_eq hz; subst this
          have hf : f = #[z0, .slice none b 0] := by rw [← Array.toList_inj, hf]
          subst hf
          have e : Value.func (Fn.yield 5) #[z0, .slice none b 0] ys = osl z0 ys.toList b := by simp [osl, osq]
          rw [e] at r
          refine ⟨_, rfl, ?_⟩
          generalize hg : osl z0 ys.toList b = d at r
          cases r with
          | osl hd h1 h2 =>
            simp [Abs.osl, Abs.osq] at hg
            obtain ⟨⟨rfl, rfl, rfl⟩, h3⟩ := hg
            subst h3
            refine .osl (by have := hd.mono hD.le; simpa [muOf] using this) (by simpa using h1) (h2.imp id fun ⟨hq, p, c, o, h3, h4, h5⟩ => ⟨hq, p, c, o, h3, ?_, h5⟩)
            show (ρ[j]?).bind μ.f = some p
            rw [hj]; exact h4
          | plain hp => subst hg; simp [plain1, Abs.osl, Abs.osq] at hp
          | mark _ _ => simp [Abs.osl, Abs.osq, mk] at hg
          | deep _ => simp [Abs.osl, Abs.osq, dsl] at hg
          | fptr _ _ _ => simp [Abs.fptr, Abs.osl, Abs.osq] at hg
          | rptr _ => simp [Abs.rptr, Abs.osl, Abs.osq] at hg
          | mbool => simp [mkb, Abs.osl, Abs.osq] at hg
          | _ => cases hg
        · cases h
      · rename_i z0 b hf
        split at h
        · rename_i hz
          simp only [Option.some.injEq] at h; subst h
          have := zeq_eq hz; subst this
          have hf : f = #[z0, .slice none b 1] := by rw [← Array.toList_inj, hf]
          subst hf
          have e : Value.func (Fn.yield 5) #[z0, .slice none b 1] ys = osq z0 ys.toList b 1 := by simp [osq]
          rw [e] at r
          refine ⟨_, rfl, ?_⟩
          generalize hg : osq z0 ys.toList b 1 = d at r
          cases r with
          | osl hd h1 h2 =>
            simp [Abs.osq] at hg
            obtain ⟨⟨rfl, rfl, rfl⟩, h3⟩ := hg
            subst h3
            refine .osl (by have := hd.mono hD.le; simpa [muOf] using this) (by simpa using h1) (.inl ?_)
            rcases h2 with h2 | ⟨h2, _⟩
            · exact h2
            · cases h2
          | plain hp => subst hg; simp [plain1, Abs.osq] at hp
          | mark _ _ => simp [Abs.osq, mk] at hg
          | deep _ => simp [Abs.osq, dsl] at hg
          | fptr _ _ _ => simp [Abs.fptr, Abs.osq] at hg
          | rptr _ => simp [Abs.rptr, Abs.osq] at hg
          | mbool => simp [mkb, Abs.osq] at hg
          | _ => cases hg
        · cases h
      · cases h
    · simp only [Option.some.injEq] at h; subst h
      rw [r.eq_of_plain rfl]
      exact ⟨_, rfl, .osl .nil rfl (.inl rfl)⟩
    · cases h
  · split at h
    · simp only [Option.some.injEq] at h; subst h
      rw [r.eq_of_plain rfl]
      exact ⟨_, rfl, .mbool⟩
    · rename_i f y
      split at h
      · rename_i b hf
        simp only [Option.some.injEq] at h; subst h
        rw [mkb_inv hf r]
        exact ⟨_, rfl, .mbool⟩
      · cases h
    · cases h

theorem s0_ok (hD : DvOk μ dv z1) {s : S0} {v v' : Value} {fs : List Filler} (h : s.mat dv ρ v = some fs) (r : VR1 μ v v') (rest : List Filler) : ∃ v0, s.fill id (fs ++ rest) = some (v0, rest) ∧ VR0 (muOf μ z1 ρ) v0 v' := by
  by_cases hz : ∃ z, s = .deep z
  · obtain ⟨z, rfl⟩ := hz
    simp only [S0.mat] at h
    cases e : dv z v with
    | none => rw [e] at h; cases h
    | some xs =>
      rw [e] at h
      simp only [Option.map_some, Option.some.injEq] at h; subst h
      exact ⟨_, rfl, .deep (hD.ok e r)⟩
  · have hb : VR0 μ v v' := by
      cases r with
      | zero r => exact r
      | @func f a b a' b' h0 ha hb =>
        have hden : Abs.den (Value.func f a b) = .func f a b := by
          rcases den_cases (Value.func f a b) with e | ⟨w, e, _, _⟩
          · exact e
          · unfold mk at e; simp at e; obtain ⟨rfl, _⟩ := e; simp [isYield] at h0
        unfold S0.mat at h
        rw [hden] at h
        cases s with
        | lit u =>
          simp only [Bool.and_eq_true] at h
          split at h
          · rename_i hc
            have e := vbeq1_eq hc.2
            rw [e] at hc
            have hp := hc.1
            simp only [plain1, Bool.and_eq_true, Array.isEmpty_iff] at hp
            obtain ⟨rfl, rfl⟩ := hp
            have e1 := Array.toList_eq_nil_iff.1 (show a'.toList = [] from ha.inv_nil)
            have e2 := Array.toList_eq_nil_iff.1 (show b'.toList = [] from hb.inv_nil)
            subst e1; subst e2
            exact .plain rfl
          · cases h
        | deep z => exact absurd ⟨z, rfl⟩ hz
        | osl j z => cases f <;> first | (simp at h; done) | (simp [isYield] at h0)
        | boo => cases f <;> first | (simp at h; done) | (simp [isYield] at h0)
        | _ => simp [isScal] at h
      | iface h0 =>
        exfalso
        unfold S0.mat at h
        cases s with
        | deep z => exact hz ⟨z, rfl⟩
        | lit u =>
          simp only [Bool.and_eq_true] at h
          split at h
          · rename_i hc
            have := hc.2
            cases u <;> simp [vbeq1] at this
          · cases h
        | _ => simp [isScal, Abs.den] at h
    exact s0_ok0 hD h hb rest

theorem matL_ok {α β : Type} {m : α → Value → Option (List Filler)} {f : α → List Filler → Option (Value × List Filler)} {R : Value → β → Prop} {R' : Value → β → Prop}
    (hok : ∀ (a : α) (v : Value) (v' : β) (fs : List Filler), m a v = some fs → R v v' → ∀ rest, ∃ v0, f a (fs ++ rest) = some (v0, rest) ∧ R' v0 v') : ∀ {l : List α} {vs : List Value} {vs' : List β} {fs : List Filler}, matL m l vs = some fs → All2 R vs vs' →
      ∀ rest, ∃ l0, fillL f l (fs ++ rest) = some (l0, rest) ∧ All2 R' l0 vs'
  | [], [], vs', fs, h, hr, rest => by
    simp only [matL, Option.some.injEq] at h; subst h
    have := hr.inv_nil; subst this
    exact ⟨[], rfl, All2.nil⟩
  | a :: l, v :: vs, vs', fs, h, hr, rest => by
    unfold matL at h
    split at h
    · rename_i x y hx hy
      simp only [Option.some.injEq] at h; subst h
      obtain ⟨v', vs'', rfl, r, hr⟩ := hr.inv_cons
      obtain ⟨v0, h1, h2⟩ := hok _ _ _ _ hx r (y ++ rest)
      obtain ⟨l0, h3, h4⟩ := matL_ok hok hy hr rest
      refine ⟨v0 :: l0, ?_, All2.cons h2 h4⟩
      unfold fillL
      rw [List.append_assoc, h1]
      simp only [h3]
    · cases h
  | [], _ :: _, _, _, h, _, _ => by simp [matL] at h
  | _ :: _, [], _, _, h, _, _ => by simp [matL] at h

theorem s1_ok (hD : DvOk μ dv z1) {s : S1} {v v' : Value} {fs : List Filler} (h : s.mat dv ρ v = some fs) (r : VR1 μ v v') (rest : List Filler) : ∃ v0, s.fill id (fs ++ rest) = some (v0, rest) ∧ VR1 (muOf μ z1 ρ) v0 v' := by
  unfold S1.mat at h
  split at h
  · rename_i s
    exact (s0_ok hD h r rest).imp fun v0 ⟨h1, h2⟩ => ⟨h1, .zero h2⟩
  · rename_i f a b
    split at h
    · rename_i f' x y
      split at h
      · rename_i hc
        simp only [Bool.and_eq_true, Bool.not_eq_true', decide_eq_true_eq] at hc
        obtain ⟨hy, rfl⟩ := hc
        split at h
        · rename_i p q hp hq
          simp only [Option.some.injEq] at h; subst h
          obtain ⟨x', y', rfl, h1, h2⟩ := (VR.one r).inv_func hy
          obtain ⟨l1, h3, h4⟩ := matL_ok (m := S0.mat dv ρ) (f := S0.fill id) (R := VR0 μ) (R' := VR0 (muOf μ z1 ρ)) (fun _ _ _ _ h r rest => s0_ok hD h (.zero r) rest) hp h1 (q ++ rest)
          obtain ⟨l2, h5, h6⟩ := matL_ok (m := S0.mat dv ρ) (f := S0.fill id) (R := VR0 μ) (R' := VR0 (muOf μ z1 ρ)) (fun _ _ _ _ h r rest => s0_ok hD h (.zero r) rest) hq h2 rest
          refine ⟨.func f l1.toArray l2.toArray, ?_, .func hy (by simpa using h4) (by simpa using h6)⟩
          unfold S1.fill
          simp only [List.append_assoc, h3, h5, hy, Bool.false_eq_true, if_false]
        · cases h
      · cases h
    · cases h
  · rename_i t s
    split at h
    · rename_i t' v
      split at h
      · rename_i ht
        subst ht
        obtain ⟨y, rfl, hy⟩ := (VR.one r).inv_iface
        obtain ⟨v0, h1, h2⟩ := s0_ok hD h (.zero hy) rest
        refine ⟨.iface t v0, ?_, .iface h2⟩
        unfold S1.fill
        simp only [h1]
      · cases h
    · cases h
theorem sa_ok (hD : DvOk μ dv z1) {s : SA} {v v' : Value} {fs : List Filler} (h : s.mat dv ρ v = some fs) (r : VRa μ v v') (rest : List Filler) : ∃ v0, s.fill id (fs ++ rest) = some (v0, rest) ∧ VRa (muOf μ z1 ρ) v0 v' := by
  have hn1 : ∀ z cs, dv z (.agg cs) = none := fun _ _ => hD.not rfl
  unfold SA.mat at h
  split at h
  · rename_i s
    have hb : VR1 μ v v' := by
      cases r with
      | one r => exact r
      | agg _ =>
        exfalso
        unfold S1.mat S0.mat at h
        cases s with
        | zero s =>
          cases s <;> simp [isScal, Abs.den, hn1] at h
          rename_i u
          have := h.1.2
          cases u <;> simp [vbeq1] at this
        | func f a b => simp at h
        | iface t s => simp at h
    exact (s1_ok hD h hb rest).imp fun v0 ⟨h1, h2⟩ => ⟨h1, .one h2⟩
  · rename_i l
    split at h
    · rename_i cs
      have hr := (VR.a r).inv_agg
      obtain ⟨ys, rfl, hys⟩ := hr
      obtain ⟨l0, h1, h2⟩ := matL_ok (m := S1.mat dv ρ) (f := S1.fill id) (R := VR1 μ) (R' := VR1 (muOf μ z1 ρ)) (fun _ _ _ _ h r rest => s1_ok hD h r rest) h hys rest
      refine ⟨.agg l0.toArray, ?_, .agg (by simpa using h2)⟩
      unfold SA.fill
      simp only [h1]
    · cases h

theorem slot_ok (hD : DvOk μ dv z1) {s : Option SA} {v v' : Value} {fs : List Filler} (h : slotMat dv ρ s v = some fs) (r : VR μ v v') (rest : List Filler) : ∃ v0, slotFill id s (fs ++ rest) = some (v0, rest) ∧ VR (muOf μ z1 ρ) v0 v' := by
  have hn2 : ∀ z cs, dv z (.tuple cs) = none := fun _ _ => hD.not rfl
  unfold slotMat at h
  split at h
  · simp only [Option.some.injEq] at h; subst h
    exact ⟨_, rfl, .dead⟩
  · rename_i s
    have hb : VRa μ v v' := by
      cases r with
      | a r => exact r
      | tup _ =>
        exfalso
        unfold SA.mat at h
        cases s with
        | agg l => simp at h
        | one s =>
          cases s with
          | zero s =>
            simp only [S1.mat, S0.mat] at h
            cases s <;> simp [isScal, Abs.den, hn2] at h
            rename_i u
            have := h.1.2
            cases u <;> simp [vbeq1] at this
          | func f a b => simp [S1.mat] at h
          | iface t s => simp [S1.mat] at h
      | dead =>
        exfalso
        unfold SA.mat at h
        cases s with
        | agg l => simp [Abs.dead] at h
        | one s =>
          cases s with
          | zero s =>
            simp only [S1.mat, S0.mat, Abs.dead] at h
            cases s <;> simp [isScal, Abs.den, hn2] at h
            rename_i u
            have := h.1.2
            cases u <;> simp [vbeq1] at this
          | func f a b => simp [S1.mat, Abs.dead] at h
          | iface t s => simp [S1.mat, Abs.dead] at h
    exact (sa_ok hD h hb rest).imp fun v0 ⟨h1, h2⟩ => ⟨h1, .a h2⟩

theorem cells_ok (hD : DvOk μ dv z1) {l : List S1} {cs : List Value} {fs : List Filler} (h : matL (S1.mat dv ρ) l cs = some fs) {arr : Array Value} {p : Nat} (hr : ∀ i v, cs[i]? = some v → ∃ v', arr[p + i]? = some v' ∧ VR1 μ v v') (rest : List Filler) :
    ∃ cs0, fillL (S1.fill id) l (fs ++ rest) = some (cs0, rest) ∧ cs0.length = cs.length ∧ ∀ i v, cs0[i]? = some v → ∃ v', arr[p + i]? = some v' ∧ VR1 (muOf μ z1 ρ) v v' := by
  obtain ⟨h1, h2⟩ := row_rel (o := 0) (n := cs.length) hr (by omega)
  rw [List.drop_zero, List.take_length] at h1
  obtain ⟨l0, h3, h4⟩ := matL_ok (m := S1.mat dv ρ) (f := S1.fill id) (R := VR1 μ) (R' := VR1 (muOf μ z1 ρ)) (fun _ _ _ _ h r rest => s1_ok hD h r rest) h h1 rest
  refine ⟨l0, h3, by rw [h4.1, h2], fun i v hv => ?_⟩
  obtain ⟨v', h5, h6⟩ := h4.2 i v hv
  rw [List.getElem?_take] at h5
  split at h5
  · rw [List.getElem?_drop, Array.getElem?_toList] at h5
    exact ⟨v', by rw [← h5]; congr 1; omega, h6⟩
  · cases h5

theorem entries_ok (hD : DvOk μ dv z1) : ∀ {l : List SE} {es : List MapEntry} {es' : List MapEntry} {fs : List Filler}, entriesMat dv ρ l es = some fs → All2 (ER μ) es es' → ∀ rest, ∃ l0, fillL (entryFill id) l (fs ++ rest) = some (l0, rest) ∧ All2 (ER (muOf μ z1 ρ)) l0 es'
  | [], [], es', fs, h, hr, rest => by
    simp only [entriesMat, Option.some.injEq] at h; subst h
    have := hr.inv_nil; subst this
    exact ⟨[], rfl, All2.nil⟩
  | a :: l, v :: vs, es', fs, h, hr, rest => by
    unfold entriesMat at h
    split at h
    · rename_i x y hx hy
      simp only [Option.some.injEq] at h; subst h
      obtain ⟨v', vs'', rfl, r, hr⟩ := hr.inv_cons
      unfold entryMat at hx
      split at hx
      · rename_i hc
        simp only [Bool.and_eq_true, beq_iff_eq] at hc
        obtain ⟨⟨hk, hk2⟩, hb⟩ := hc
        obtain ⟨v0, h1, h2⟩ := sa_ok hD hx r.val (y ++ rest)
        obtain ⟨l0, h3, h4⟩ := entries_ok hD hy hr rest
        refine ⟨{ key := a.key, val := v0, born := a.born } :: l0, ?_, All2.cons ⟨by rw [r.key, vbeq1_plain hk2], by rw [r.born, hb], h2⟩ h4⟩
        have h5 : entryFill id a (x ++ y ++ rest) = some ({ key := a.key, val := v0, born := a.born }, y ++ rest) := by unfold entryFill; rw [List.append_assoc, h1]
        unfold fillL
        simp only [h5, h3]
      · cases hx
    · cases h
  | [], _ :: _, _, _, h, _, _ => by simp [entriesMat] at h
  | _ :: _, [], _, _, h, _, _ => by simp [entriesMat] at h

variable {base : Nat} {w : World}

theorem roOk_spec {wk ro ro' : Bool} (h : roOk wk ro ro' = true) : (ro = false → ro' = false) ∧ (wk = false → ro = ro') := by
  cases wk <;> cases ro <;> cases ro' <;> simp_all [roOk]

theorem block_ok (hD : DvOk μ dv z1) {wk : Bool} {s : SB} {x : Blk} {fs : List Filler} (h : s.mat dv wk ρ x = some fs) {p : Pl} (hr : BR μ base w p x) (rest : List Filler) :
    ∃ x0, s.fill id (fs ++ rest) = some (x0, rest) ∧ BR (muOf μ z1 ρ) base w p x0 ∧ ((ownB x0 = true → ownB x = true) ∧ (wk = false → ownB x0 = ownB x)) := by
  unfold SB.mat at h
  split at h
  · rename_i l ro cs ro'
    split at h
    · rename_i hro
      obtain ⟨ha, hb⟩ := roOk_spec hro
      obtain ⟨arr, e, fr, h1, h2, h3, h4⟩ := hr
      obtain ⟨cs0, h5, h6, h7⟩ := cells_ok hD h h3 rest
      exact ⟨.cells cs0 ro, by unfold SB.fill; simp only [h5], ⟨arr, e, fr, h1, h2, h7, fun h => by rw [h6]; exact h4 (ha h)⟩, by simp only [ownB, Bool.not_eq_true']; exact ha, fun h => by simp only [ownB, hb h]⟩
    · cases h
  · rename_i like ro r ro'
    split at h
    · rename_i hro
      obtain ⟨ha, hb⟩ := roOk_spec hro
      simp only [Option.some.injEq] at h; subst h
      refine ⟨.row r ro, rfl, ?_, by simp only [ownB, Bool.not_eq_true']; exact ha, fun h => by simp only [ownB, hb h]⟩
      obtain ⟨arr, e, fr, h1, h2, h3, h4⟩ := hr
      refine ⟨arr, e, fr, h1, h2, fun i v hv => ?_, fun h => h4 (ha h)⟩
      obtain ⟨v', h5, h6⟩ := h3 i v hv
      exact ⟨v', h5, row_keep (μ' := muOf μ z1 ρ) hD.le (List.mem_of_getElem? hv) h6⟩
    · cases h
  · rename_i like ro cs ro'
    split at h
    · rename_i hro
      obtain ⟨ha, hb⟩ := roOk_spec hro
      cases hl : rowLike like cs with
      | none => simp [hl] at h
      | some r =>
        simp [hl] at h; subst h
        refine ⟨.row r ro, rfl, ?_, by simp only [ownB, Bool.not_eq_true']; exact ha, fun h => by rw [hb h]; rfl⟩
        obtain ⟨arr, e, fr, h1, h2, h3, h4⟩ := hr
        have hden := rowLike_spec hl
        refine ⟨arr, e, fr, h1, h2, fun i v hv => ?_, fun h => ?_⟩
        · rw [← hden] at hv
          rw [List.getElem?_map] at hv
          cases he : cs[i]? with
          | none => rw [he] at hv; cases hv
          | some u =>
            rw [he] at hv; simp at hv
            obtain ⟨v', h5, h6⟩ := h3 i u he
            refine ⟨v', h5, ?_⟩
            have h7 := VR1.den_iff.2 h6
            rw [hv] at h7
            have hm : v ∈ r.cells := by
              rw [← hden]; rw [List.mem_map]; exact ⟨u, List.mem_of_getElem? he, hv⟩
            exact row_keep (μ' := muOf μ z1 ρ) hD.le hm h7
        · rw [← hden, List.length_map]; exact h4 (ha h)
    · cases h
  · rename_i l ck es ck'
    split at h
    · rename_i hck
      subst hck
      obtain ⟨es', h1, h2, h3⟩ := hr
      obtain ⟨l0, h4, h5⟩ := entries_ok hD h h2 rest
      exact ⟨.map l0 ck, by unfold SB.fill; simp only [h4], ⟨es', h1, h5, h3⟩, fun h => h, fun _ => rfl⟩
    · cases h
  · simp only [Option.some.injEq] at h; subst h
    obtain ⟨arr, e, fr, h1, h2, h3, h4⟩ := hr
    exact ⟨.cells [] false, rfl, ⟨arr, e, fr, h1, h2, fun i v hv => by simp at hv, h4⟩, fun h => h, fun _ => rfl⟩
  · rename_i kz vz kz' vz' es
    split at h
    · rename_i hz
      simp only [Bool.and_eq_true] at hz
      simp only [Option.some.injEq] at h; subst h
      have e1 := zeq_eq hz.1; subst e1
      have e2 := zeq_eq hz.2; subst e2
      obtain ⟨es', ck, h1, h2, h3⟩ := hr
      exact ⟨.smap kz vz es, rfl, ⟨es', ck, h1, h2.mono fun _ _ _ r => r.mono hD.le, h3⟩, fun h => h, fun _ => rfl⟩
    · cases h
  · rename_i kz vz ck
    split at h
    · rename_i hz
      simp only [Option.some.injEq] at h; subst h
      obtain ⟨es', h1, h2, h3⟩ := hr
      have h4 := h2.inv_nil
      refine ⟨.smap kz vz [], rfl, ⟨es', ck, h1, by rw [h4]; exact All2.nil, h3, hz, by rw [h4]; exact ⟨fun e he => (by cases he), List.nodup_nil, List.nodup_nil⟩⟩, fun h => h, fun _ => rfl⟩
    · cases h
  · cases h

theorem slots_ok (hD : DvOk μ dv z1) : ∀ {l : List (Option SA)} {vs : List Value} {vs' : List Value} {fs : List Filler}, matL (slotMat dv ρ) l vs = some fs → All2 (VR μ) vs vs' → ∀ rest, ∃ l0, fillL (slotFill id) l (fs ++ rest) = some (l0, rest) ∧ All2 (VR (muOf μ z1 ρ)) l0 vs' :=
  fun h hr rest => matL_ok (m := slotMat dv ρ) (f := slotFill id) (R := VR μ) (R' := VR (muOf μ z1 ρ)) (fun _ _ _ _ h r rest => slot_ok hD h r rest) h hr rest

theorem s0_syn {s : S0} {v : Value} {fs : List Filler} (h : s.mat dv ρ v = some fs) (rest : List Filler) : ∃ v0, s.fill id (fs ++ rest) = some (v0, rest) := by
  unfold S0.mat at h
  repeat' split at h
  all_goals first
    | (cases h; done)
    | (obtain ⟨xs, _, rfl⟩ := Option.map_eq_some_iff.1 h; exact ⟨_, rfl⟩)
    | (simp only [Option.some.injEq] at h; subst h; exact ⟨_, rfl⟩)
    | (rename_i hc; simp only [Option.some.injEq] at h; subst h; simp only [Bool.and_eq_true] at hc; exact ⟨_, if_pos hc.1⟩)
    | (rename_i hc; simp only [Option.some.injEq] at h; subst h; exact ⟨_, if_pos hc⟩)
theorem all2_true {α : Type} (l : List α) : All2 (fun (_ _ : α) => True) l l := All2.refl fun _ _ => trivial
theorem syn_list {α : Type} {m : α → Value → Option (List Filler)} {f : α → List Filler → Option (Value × List Filler)} (hok : ∀ (a : α) (v : Value) (fs : List Filler), m a v = some fs → ∀ rest, ∃ v0, f a (fs ++ rest) = some (v0, rest))
    {l : List α} {vs : List Value} {fs : List Filler} (h : matL m l vs = some fs) (rest : List Filler) : ∃ l0, fillL f l (fs ++ rest) = some (l0, rest) := by
  obtain ⟨l0, h1, _⟩ := matL_ok (m := m) (f := f) (R := fun (_ _ : Value) => True) (R' := fun (_ _ : Value) => True) (fun a v v' fs h _ rest => let ⟨v0, h1⟩ := hok a v fs h rest; ⟨v0, h1, trivial⟩) h (all2_true vs) rest
  exact ⟨l0, h1⟩
theorem s1_syn {s : S1} {v : Value} {fs : List Filler} (h : s.mat dv ρ v = some fs) (rest : List Filler) : ∃ v0, s.fill id (fs ++ rest) = some (v0, rest) := by
  unfold S1.mat at h
  split at h
  · exact s0_syn h rest
  · split at h
    · split at h
      · rename_i hc
        simp only [Bool.and_eq_true, Bool.not_eq_true', decide_eq_true_eq] at hc
        split at h
        · rename_i p q hp hq
          simp only [Option.some.injEq] at h; subst h
          obtain ⟨l1, h1⟩ := syn_list (m := S0.mat dv ρ) (f := S0.fill id) (fun _ _ _ h rest => s0_syn h rest) hp (q ++ rest)
          obtain ⟨l2, h2⟩ := syn_list (m := S0.mat dv ρ) (f := S0.fill id) (fun _ _ _ h rest => s0_syn h rest) hq rest
          unfold S1.fill
          simp only [List.append_assoc, h1, h2, hc.1, Bool.false_eq_true, if_false]
          exact ⟨_, rfl⟩
        · cases h
      · cases h
    · cases h
  · split at h
    · split at h
      · obtain ⟨v0, h1⟩ := s0_syn h rest
        unfold S1.fill
        simp only [h1]
        exact ⟨_, rfl⟩
      · cases h
    · cases h
theorem sa_syn {s : SA} {v : Value} {fs : List Filler} (h : s.mat dv ρ v = some fs) (rest : List Filler) : ∃ v0, s.fill id (fs ++ rest) = some (v0, rest) := by
  unfold SA.mat at h
  split at h
  · exact s1_syn h rest
  · split at h
    · obtain ⟨l1, h1⟩ := syn_list (m := S1.mat dv ρ) (f := S1.fill id) (fun _ _ _ h rest => s1_syn h rest) h rest
      unfold SA.fill
      simp only [h1]
      exact ⟨_, rfl⟩
    · cases h
theorem entries_syn : ∀ {l : List SE} {es : List MapEntry} {fs : List Filler}, entriesMat dv ρ l es = some fs → ∀ rest, ∃ l0, fillL (entryFill id) l (fs ++ rest) = some (l0, rest)
  | [], [], fs, h, rest => by simp only [entriesMat, Option.some.injEq] at h; subst h; exact ⟨[], rfl⟩
  | a :: l, v :: vs, fs, h, rest => by
    unfold entriesMat at h
    split at h
    · rename_i x y hx hy
      simp only [Option.some.injEq] at h; subst h
      unfold entryMat at hx
      split at hx
      · obtain ⟨v0, h1⟩ := sa_syn hx (y ++ rest)
        obtain ⟨l0, h3⟩ := entries_syn hy rest
        have h5 : entryFill id a (x ++ y ++ rest) = some ({ key := a.key, val := v0, born := a.born }, y ++ rest) := by unfold entryFill; rw [List.append_assoc, h1]
        unfold fillL
        simp only [h5, h3]
        exact ⟨_, rfl⟩
      · cases hx
    · cases h
  | [], _ :: _, _, h, _ => by simp [entriesMat] at h
  | _ :: _, [], _, h, _ => by simp [entriesMat] at h
theorem block_syn {wk : Bool} {s : SB} {x : Blk} {fs : List Filler} (h : s.mat dv wk ρ x = some fs) (rest : List Filler) : ∃ x0, s.fill id (fs ++ rest) = some (x0, rest) ∧ ((ownB x0 = true → ownB x = true) ∧ (wk = false → ownB x0 = ownB x)) := by
  unfold SB.mat at h
  split at h
  · split at h
    · rename_i hro
      obtain ⟨l1, h1⟩ := syn_list (m := S1.mat dv ρ) (f := S1.fill id) (fun _ _ _ h rest => s1_syn h rest) h rest
      unfold SB.fill
      simp only [h1]
      obtain ⟨ha, hb⟩ := roOk_spec hro; exact ⟨_, rfl, by simp only [ownB, Bool.not_eq_true']; exact ha, fun h => by simp only [ownB, hb h]⟩
    · cases h
  · split at h
    · rename_i hro
      simp only [Option.some.injEq] at h; subst h
      obtain ⟨ha, hb⟩ := roOk_spec hro; exact ⟨_, rfl, by simp only [ownB, Bool.not_eq_true']; exact ha, fun h => by simp only [ownB, hb h]⟩
    · cases h
  · rename_i like ro cs ro'
    split at h
    · rename_i hro
      cases hl : rowLike like cs with
      | none => simp [hl] at h
      | some r =>
        simp [hl] at h; subst h
        obtain ⟨ha, hb⟩ := roOk_spec hro
        exact ⟨_, rfl, by simp only [ownB, Bool.not_eq_true']; exact ha, fun h => by simp only [ownB, hb h]⟩
    · cases h
  · split at h
    · obtain ⟨l1, h1⟩ := entries_syn h rest
      unfold SB.fill
      simp only [h1]
      exact ⟨_, rfl, fun h => h, fun _ => rfl⟩
    · cases h
  · simp only [Option.some.injEq] at h; subst h
    exact ⟨.cells [] false, rfl, fun h => h, fun _ => rfl⟩
  · split at h
    · simp only [Option.some.injEq] at h; subst h
      exact ⟨_, rfl, fun h => h, fun _ => rfl⟩
    · cases h
  · split at h
    · simp only [Option.some.injEq] at h; subst h
      exact ⟨_, rfl, fun h => h, fun _ => rfl⟩
    · cases h
  · cases h

theorem blocks_ok (hD : DvOk μ dv z1) {wk : Bool} {h : Hp} (hrel : Rel μ base h.get w) (hfree : ∀ b, h.next ≤ b → μ b = none) : ∀ {l : List (Option SB)} {bs : List Nat} {fs : List Filler}, blocksMat dv wk ρ h l bs = some fs → ∀ (rest : List Filler), ∃ l0, fillL (blockFill id) l (fs ++ rest) = some (l0, rest) ∧ l0.length = bs.length ∧
      ∀ (i : Nat) (x0 : Blk), l0[i]? = some (some x0) → ∃ b, bs[i]? = some b ∧ ∀ p, μ b = some p → ∃ x, h.get b = some x ∧ ((ownB x0 = true → ownB x = true) ∧ (wk = false → ownB x0 = ownB x)) ∧ BR (muOf μ z1 ρ) base w p x0
  | [], [], fs, hm, rest => by
    simp only [blocksMat, Option.some.injEq] at hm; subst hm
    exact ⟨[], rfl, rfl, fun i x0 h => by simp at h⟩
  | a :: l, b :: bs, fs, hm, rest => by
    unfold blocksMat at hm
    split at hm
    · rename_i x y hx hy
      simp only [Option.some.injEq] at hm; subst hm
      obtain ⟨l0, h1, hlen, h2⟩ := blocks_ok hD hrel hfree hy rest
      unfold blockMat at hx
      split at hx
      · simp only [Option.some.injEq] at hx; subst hx
        refine ⟨none :: l0, ?_, by simp [hlen], fun i x0 hi => ?_⟩
        · unfold fillL
          have : blockFill id none ([] ++ y ++ rest) = some (none, y ++ rest) := rfl
          simp only [this, h1]
        · cases i with
          | zero => simp at hi
          | succ i => obtain ⟨b', h3, h4⟩ := h2 i x0 (by simpa using hi); exact ⟨b', by simpa using h3, h4⟩
      · rename_i s
        have key : ∃ x0, s.fill id (x ++ (y ++ rest)) = some (x0, y ++ rest) ∧ ∀ p, μ b = some p → ∃ x, h.get b = some x ∧ ((ownB x0 = true → ownB x = true) ∧ (wk = false → ownB x0 = ownB x)) ∧ BR (muOf μ z1 ρ) base w p x0 := by
          split at hx
          · rename_i blk hb
            cases hp : μ b with
            | none =>
              obtain ⟨x0, h3, h4⟩ := block_syn hx (y ++ rest)
              exact ⟨x0, h3, fun p hp' => by cases hp'⟩
            | some p =>
              obtain ⟨x0, h3, h4, h5⟩ := block_ok hD hx (hrel.blk b p blk hp hb) (y ++ rest)
              exact ⟨x0, h3, fun p' hp' => by simp at hp'; subst hp'; exact ⟨blk, hb, h5, h4⟩⟩
          · split at hx
            · rename_i hc
              simp only [Option.some.injEq] at hx; subst hx
              simp only [Bool.and_eq_true, decide_eq_true_eq] at hc
              cases s <;> first | (simp [SB.isTok] at hc; done) | skip
              exact ⟨.cells [] false, rfl, fun p hp => by rw [hfree b hc.2] at hp; cases hp⟩
            · cases hx
        obtain ⟨x0, h3, h4⟩ := key
        refine ⟨some x0 :: l0, ?_, by simp [hlen], fun i x1 hi => ?_⟩
        · unfold fillL
          have : blockFill id (some s) (x ++ y ++ rest) = some (some x0, y ++ rest) := by rw [List.append_assoc]; unfold blockFill; simp only [h3]
          simp only [this, h1]
        · cases i with
          | zero =>
            simp at hi; subst hi
            exact ⟨b, rfl, h4⟩
          | succ i => obtain ⟨b', h5, h6⟩ := h2 i x1 (by simpa using hi); exact ⟨b', by simpa using h5, h6⟩
    · cases hm
  | [], _ :: _, _, h, _ => by simp [blocksMat] at h
  | _ :: _, [], _, h, _ => by simp [blocksMat] at h

theorem nodup_inj : ∀ {l : List Nat} {i j b : Nat}, l.Nodup → l[i]? = some b → l[j]? = some b → i = j
  | [], i, j, b, _, h, _ => by simp at h
  | x :: l, i, j, b, hn, hi, hj => by
    rw [List.nodup_cons] at hn
    cases i with
    | zero =>
      simp at hi; subst hi
      cases j with
      | zero => rfl
      | succ j => exact absurd (List.mem_of_getElem? (by simpa using hj)) hn.1
    | succ i =>
      cases j with
      | zero => simp at hj; subst hj; exact absurd (List.mem_of_getElem? (by simpa using hi)) hn.1
      | succ j => exact congrArg (· + 1) (nodup_inj hn.2 (show l[i]? = some b by simpa using hi) (show l[j]? = some b by simpa using hj))

/-- WHAT HAS A SHAPE STANDS FOR WHAT THE FILLED SHAPE STANDS FOR. -/
theorem shapeD_ok {S : Nat → Prop} {wk : Bool} {sh : Shape} {s s0 : St} {fs : List Filler} (hm : sh.matD dv wk ρ s = some fs) (hf : sh.fill fs = some s0) (hnd : ρ.Nodup) {a : Array Value} (ht : TR μ s.tmps a) (hr : Rel μ base s.h.get w) (hfree : ∀ b, s.h.next ≤ b → μ b = none)
    (hD : DvOk μ dv (zf μ s.h.get w S)) (hS : ∀ b, b ∈ ρ → S b → ∀ x, s.h.get b = some x → ownB x = false) :
    s0.h.next = ρ.length ∧ TR (muOf μ (zf μ s.h.get w S) ρ) s0.tmps a ∧ Rel (muOf μ (zf μ s.h.get w S) ρ) base s0.h.get w ∧
      ∀ (j : Nat) (x0 : Blk) (p : Pl), s0.h.get j = some x0 → muOf μ (zf μ s.h.get w S) ρ j = some p → ∃ b x, ρ[j]? = some b ∧ s.h.get b = some x ∧ ((ownB x0 = true → ownB x = true) ∧ (wk = false → ownB x0 = ownB x)) := by
  unfold Shape.matD at hm
  split at hm
  · rename_i x y hx hy
    simp only [Option.some.injEq] at hm; subst hm
    obtain ⟨l0, h1, h2⟩ := slots_ok hD hx ht y
    obtain ⟨bs, h3, hlen, h4⟩ := blocks_ok hD hr hfree hy []
    rw [List.append_nil] at h3
    unfold Shape.fill at hf
    rw [h1] at hf
    simp only [h3, Option.some.injEq] at hf
    subst hf
    have hget : ∀ (j : Nat) (x0 : Blk), (hpOf bs).get j = some x0 → bs[j]? = some (some x0) := by
      intro j x0 h
      rw [hpOf_get] at h
      cases e : bs[j]? with
      | none => rw [e] at h; simp at h
      | some o => rw [e] at h; simp at h; rw [h]
    have at' : ∀ {j : Nat} {x0 : Blk} {p : Pl}, (hpOf bs).get j = some x0 → (ρ[j]?).bind μ.f = some p → ∃ b x, ρ[j]? = some b ∧ μ b = some p ∧ s.h.get b = some x ∧ ((ownB x0 = true → ownB x = true) ∧ (wk = false → ownB x0 = ownB x)) ∧ BR (muOf μ (zf μ s.h.get w S) ρ) base w p x0 := by
      intro j x0 p hx0 hp
      obtain ⟨b, h5, h6⟩ := h4 j x0 (hget j x0 hx0)
      rw [h5] at hp
      obtain ⟨x, h7, h8, h9⟩ := h6 p hp
      exact ⟨b, x, h5, hp, h7, h8, h9⟩
    have hfz := freeze_rel hr S
    refine ⟨by show (hpOf bs).next = _; rw [hpOf_next, hlen], h2, ⟨hr.size, fun j p x0 hp hx0 => ?_, fun j j' p p' x0 x0' hp hp' hx0 hx0' hne ho => ?_, fun c i a hc => ⟨(hfz.frz c i a hc).1, fun j p x0 hp hx0 ho hcc => ?_⟩⟩, fun j x0 p hx0 hp => ?_⟩
    · obtain ⟨b, x, _, _, _, _, h8⟩ := at' hx0 hp
      exact h8
    · obtain ⟨b, x, h5, hpb, h6, h7, _⟩ := at' hx0 hp
      obtain ⟨b', x', h5', hpb', h6', h7', _⟩ := at' hx0' hp'
      refine hr.inj b b' p p' x x' hpb hpb' h6 h6' (fun e => ?_) (h7.1 ho)
      subst e
      exact hne (nodup_inj hnd h5 h5')
    · obtain ⟨b, x, h5, hpb, h6, h7, _⟩ := at' hx0 hp
      have hown := h7.1 ho
      have hnS : ¬ S b := fun hs => by
        have := hS b (List.mem_of_getElem? h5) hs x h6
        rw [hown] at this; cases this
      exact (hfz.frz c i a hc).2 b p x hpb (by unfold gF; rw [if_neg hnS]; exact h6) hown hcc
    · obtain ⟨b, x, h5, _, h6, h7, _⟩ := at' hx0 hp
      exact ⟨b, x, h5, h6, h7⟩
  · cases hm
theorem okF_own {b : Nat} (hb : b ∈ ρ) (ho : okF ρ b = true) : False := by
  unfold okF at ho
  simp only [Bool.not_eq_true', List.contains_eq_mem, decide_eq_false_iff_not] at ho
  exact ho hb
/-- What is frozen at a shape. -/
noncomputable def zS (μ : Mu) (h : Hp) (w : World) (ρ : Rho) : Nat → Nat → Option Value := zf μ h.get w fun b => okF ρ b = true
theorem dvOk_of {h : Hp} (hr : Rel μ base h.get w) (ρ : Rho) : DvOk μ (deepV h (okF ρ) 6) (zS μ h w ρ) :=
  ⟨(muF_le hr _).z, fun hd hv => deepV_ok (fun _ h => h) hr 6 hd hv, deepV_one⟩
theorem shape_ok {wk : Bool} {sh : Shape} {s s0 : St} {fs : List Filler} (hm : sh.mat wk ρ s = some fs) (hf : sh.fill fs = some s0) (hnd : ρ.Nodup) {a : Array Value} (ht : TR μ s.tmps a) (hr : Rel μ base s.h.get w) (hfree : ∀ b, s.h.next ≤ b → μ b = none) :
    s0.h.next = ρ.length ∧ TR (muOf μ (zS μ s.h w ρ) ρ) s0.tmps a ∧ Rel (muOf μ (zS μ s.h w ρ) ρ) base s0.h.get w ∧
      ∀ (j : Nat) (x0 : Blk) (p : Pl), s0.h.get j = some x0 → muOf μ (zS μ s.h w ρ) ρ j = some p → ∃ b x, ρ[j]? = some b ∧ s.h.get b = some x ∧ ((ownB x0 = true → ownB x = true) ∧ (wk = false → ownB x0 = ownB x)) :=
  shapeD_ok hm hf hnd ht hr hfree (dvOk_of hr ρ) fun _ hb hs _ _ => (okF_own hb hs).elim
theorem zf_none {g : Gm} : zf μ g w (fun _ => False) = μ.z := by
  funext c i
  unfold zf
  rw [if_neg (by rintro ⟨_, _, _, h, _⟩; exact h)]
theorem dvOk_none {h : Hp} (hr : Rel μ base h.get w) : DvOk μ (deepV h (fun _ => false) 6) μ.z :=
  ⟨fun _ _ _ h => h, fun hd hv => by
    have := deepV_ok (S := fun _ => False) (ok := fun _ => false) (fun b hb => by cases hb) hr 6 hd hv
    rwa [zf_none] at this, deepV_one⟩
/-- Nothing is frozen. -/
theorem shape0_ok {wk : Bool} {sh : Shape} {s s0 : St} {fs : List Filler} (hm : sh.matD (deepV s.h (fun _ => false) 6) wk ρ s = some fs) (hf : sh.fill fs = some s0) (hnd : ρ.Nodup) {a : Array Value} (ht : TR μ s.tmps a) (hr : Rel μ base s.h.get w) (hfree : ∀ b, s.h.next ≤ b → μ b = none) :
    s0.h.next = ρ.length ∧ TR (muOf μ μ.z ρ) s0.tmps a ∧ Rel (muOf μ μ.z ρ) base s0.h.get w ∧
      ∀ (j : Nat) (x0 : Blk) (p : Pl), s0.h.get j = some x0 → muOf μ μ.z ρ j = some p → ∃ b x, ρ[j]? = some b ∧ s.h.get b = some x ∧ ((ownB x0 = true → ownB x = true) ∧ (wk = false → ownB x0 = ownB x)) := by
  have h := shapeD_ok (S := fun _ => False) hm hf hnd ht hr hfree (by rw [zf_none]; exact dvOk_none hr) (fun _ _ h => h.elim)
  rw [zf_none] at h
  exact h
end
end Go.Abs
end
section
namespace Go.Abs
open Go

noncomputable section
/-- A type's zero, slices as immutable data. -/
def zeroL (f : TypeId → Option Value) : List TypeId → Option (List Value)
  | [] => some []
  | t :: r => match f t, zeroL f r with
    | some z, some l => some (z.cells.toList ++ l)
    | _, _ => none
def zeroD (P : Program) : Nat → TypeId → Option Value
  | 0, _ => none
  | n + 1, t => match P.underlying t with
    | some (.int k) => some (.int k 0)
    | some .string => some (.string ⟨#[]⟩)
    | some .bool => some (.bool false)
    | some (.slice e) => (zeroD P n e).bind fun z => if z.cells.size = 0 then none else some (dsl z [])
    | some (.struct fs) => (zeroL (zeroD P n) (fs.toList.map (·.type))).map fun l => .agg l.toArray
    | some (.array k e) => (zeroD P n e).map fun z => .agg (List.replicate k z.cells.toList).flatten.toArray
    | _ => none
variable (S : Sy)
/-- A cell of an element that is not known. -/
def view1 (z x : Value) : Value :=
  match z with
  | .int k _ => mk (.int k (S.dint x))
  | .string _ => mk (.string (S.dstr x))
  | .bool _ => mkb (S.dbool x)
  | .func (.yield 1) f _ => .func (.yield 1) f (S.dels x).toArray
  | z => if plain1 z then z else .bool false
def viewC (z x : Value) : List Value :=
  match z with
  | .agg zs => zs.toList.zipIdx.map fun p => view1 S p.1 (S.fld x p.2)
  | z => [view1 S z x]
/-- A value that is an immutable slice: its element's zero, its elements. -/
def asDeep (v : Value) : Option (Value × List Value) :=
  match v with
  | .func (.yield 1) f xs => match f.toList with
    | [z] => some (z, xs.toList)
    | _ => none
  | .func (.yield 5) f xs => match f.toList with
    | [z, .slice none _ _] => some (z, xs.toList)
    | _ => none
  | _ => none
/-- A place in an immutable slice. -/
def asFptr (v : Value) : Option (List Value × Nat) :=
  match v with
  | .func (.yield 2) cs l => match l.toList with
    | [.slice none j 0] => some (cs.toList, j)
    | _ => none
  | _ => none
/-- A literal. -/
def isLit (v : Value) : Bool :=
  match v with
  | .func (.yield 5) f _ => match f.toList with
    | [_, .slice none _ 1] => true
    | _ => false
  | _ => false
def symDT (P : Program) (ρ : Operand → Value) (o : Oper) (h : Hp) : Option (List Alt) :=
  match o.op with
  | .call { callee := .builtin .len, args, argTypes } => match argTypes[0]? with
    | some t => match P.underlying t, args.toList.map ρ with
      | some (.slice _), [v] => match asDeep v with
        | some (_, xs) => pure1 h (if isLit v then .int .i64 (xs.length : Int) else mk (.int .i64 (S.int (S.len xs))))
        | none => none
      | _, _ => none
    | none => none
  | .indexAddr t x i => match P.underlying t, asDeep (ρ x), den (ρ i) with
    | some (.slice e), some (z, xs), .int _ n =>
      if szA P e = some z.cells.size then one h (S.ile 0 n ∧ S.ilt n (S.int (S.len xs))) (fptr (viewC S z (S.get z xs (S.nat n))) 0) else none
    | _, _, _ => none
  | .fieldAddr s x f => match P.underlying s, asFptr (ρ x) with
    | some (.struct fs), some (cs, j) => match fs[f]? with
      | some fd => match szA P fd.type with
        | some (_ + 1) => pure1 h (fptr cs (j + fd.offset))
        | _ => none
      | none => none
    | _, _ => none
  | .nilCheck x => match asFptr (ρ x) with
    | some _ => pure1 h (ρ x)
    | none => none
  | .slice t x lo hi none => match P.underlying t, asDeep (ρ x) with
    | some (.slice e), some (z, xs) => match szA P e, symBound S (hi.map ρ) (S.len xs) (S.len xs) with
      | some sz, some (o1, y) => if sz = z.cells.size then match symBound S (lo.map ρ) 0 y with
        | some (o2, l) => one h (o1 ∧ o2) (dsl z (S.take (S.nsub y l) (S.drop l xs)))
        | none => none
        else none
      | _, _ => none
    | _, _ => none
  | .binOp op t x y _ => match P.underlying t, asDeep (ρ x), ρ y with
    | some (.slice _), some (_, xs), .slice none _ _ => match op with
      | .eql => one h (S.nlt 0 (S.len xs)) (.bool false)
      | .neq => one h (S.nlt 0 (S.len xs)) (.bool true)
      | _ => none
    | _, _, _ => none
  | _ => none
def symDR (P : Program) (ρ : Operand → Value) (o : Oper) (h : Hp) : Option (List Alt) :=
  match o.op with
  | .load t a => match asFptr (ρ a), P.underlying t, szA P t with
    | some (cs, j), some d, some n =>
      if isAggD d then (if j + n ≤ cs.length then pure1 h (.agg ((cs.drop j).take n).toArray) else none)
      else match cs[j]? with
        | some v => pure1 h v
        | none => none
    | _, _, _ => none
  | .convert src dst x => match P.underlying src, P.underlying dst with
    | some (.slice e), some .string => match P.underlying e, asDeep (ρ x) with
      | some (.int .u8), some (.int .u8 _, xs) => pure1 h (mk (.string (S.sof (S.ints xs))))
      | _, _ => none
    | _, _ => none
  | _ => none
end

section
variable {P : Program} {μ : Mu} {base : Nat} {w : World}

theorem cellsN_len (z x : Value) : (cellsN z x).length = z.cells.size := by
  unfold cellsN
  split
  · simp [Value.cells]
  · rename_i h
    cases z <;> first | rfl | exact absurd rfl (h _)
theorem flatN_cons (z x : Value) (xs : List Value) : flatN z (x :: xs) = cellsN z x ++ flatN z xs := rfl
theorem flatN_append (z : Value) (xs ys : List Value) : flatN z (xs ++ ys) = flatN z xs ++ flatN z ys := List.flatMap_append
theorem flatN_len (z : Value) : ∀ xs : List Value, (flatN z xs).length = xs.length * z.cells.size
  | [] => by simp [flatN]
  | x :: xs => by rw [flatN_cons, List.length_append, cellsN_len, flatN_len z xs, List.length_cons, Nat.succ_mul]; omega
theorem flatN_drop (z : Value) : ∀ (l : Nat) (xs : List Value), flatN z (xs.drop l) = (flatN z xs).drop (l * z.cells.size)
  | 0, xs => by simp
  | l + 1, [] => by simp [flatN]
  | l + 1, x :: xs => by
    rw [List.drop_succ_cons, flatN_drop z l xs, flatN_cons, Nat.succ_mul, Nat.add_comm, ← List.drop_drop, ← cellsN_len z x, List.drop_left]
theorem flatN_take (z : Value) : ∀ (l : Nat) (xs : List Value), flatN z (xs.take l) = (flatN z xs).take (l * z.cells.size)
  | 0, xs => by simp [flatN]
  | l + 1, [] => by simp [flatN]
  | l + 1, x :: xs => by
    rw [List.take_succ_cons, flatN_cons, flatN_take z l xs, flatN_cons, Nat.succ_mul, Nat.add_comm, ← cellsN_len z x, List.take_length_add_append]
theorem flatN_get {z : Value} {xs : List Value} {i j : Nat} (hi : i < xs.length) (hj : j < z.cells.size) : (flatN z xs)[i * z.cells.size + j]? = (cellsN z (xs.getD i z))[j]? := by
  have h1 : (flatN z xs)[i * z.cells.size + j]? = (flatN z (xs.drop i))[j]? := by rw [flatN_drop, List.getElem?_drop]
  rw [h1, List.drop_eq_getElem_cons hi, flatN_cons, List.getElem?_append_left (by rw [cellsN_len]; exact hj), List.getD_eq_getElem?_getD, List.getElem?_eq_getElem hi]
  rfl

theorem deep_inv {v v' z : Value} {xs : List Value} (hd : asDeep v = some (z, xs)) (h : VR μ v v') : DR μ.z (dsl z xs) v' := by
  unfold asDeep at hd
  split at hd
  · rename_i f ys
    split at hd
    · rename_i z0 hf
      simp only [Option.some.injEq, Prod.mk.injEq] at hd
      obtain ⟨rfl, rfl⟩ := hd
      have hf : f = #[z0] := by rw [← Array.toList_inj, hf]
      subst hf
      have h0 := h.zero_of_basic rfl
      generalize hg : Value.func (Fn.yield 1) #[z0] ys = d at h0
      cases h0 with
      | deep hd => simp [dsl] at hg; obtain ⟨rfl, h3⟩ := hg; subst h3; simpa using hd
      | plain hp => subst hg; simp [plain1] at hp
      | mark _ _ => simp [mk] at hg
      | osl _ _ _ => simp [Abs.osq] at hg
      | fptr _ _ _ => simp [Abs.fptr] at hg
      | rptr _ => simp [Abs.rptr] at hg
      | mbool => simp [mkb] at hg
      | _ => cases hg
    · cases hd
  · rename_i f ys
    split at hd
    · rename_i z0 b q hf
      simp only [Option.some.injEq, Prod.mk.injEq] at hd
      obtain ⟨rfl, rfl⟩ := hd
      have hf : f = #[z0, .slice none b q] := by rw [← Array.toList_inj, hf]
      subst hf
      have h0 := h.zero_of_basic rfl
      generalize hg : Value.func (Fn.yield 5) #[z0, .slice none b q] ys = d at h0
      cases h0 with
      | osl hd h1 h2 => simp [Abs.osq] at hg; obtain ⟨⟨rfl, rfl, rfl⟩, h3⟩ := hg; subst h3; simpa using hd
      | plain hp => subst hg; simp [plain1] at hp
      | mark _ _ => simp [mk] at hg
      | deep _ => simp [dsl] at hg
      | fptr _ _ _ => simp [Abs.fptr] at hg
      | rptr _ => simp [Abs.rptr] at hg
      | mbool => simp [mkb] at hg
      | _ => cases hg
    · cases hd
  · cases hd
theorem fptr_inv {v v' : Value} {cs : List Value} {j : Nat} (hd : asFptr v = some (cs, j)) (h : VR μ v v') :
    ∃ (c o : Nat) (val : Nat → Value), v' = .pointer (some ⟨c, o + j, none⟩) ∧ (∀ i u, cs[i]? = some u → μ.z c (o + i) = some (val i)) ∧ (∀ i u, cs[i]? = some u → VR0 μ u (val i)) := by
  unfold asFptr at hd
  split at hd
  · rename_i f l
    split at hd
    · rename_i j' hf
      simp only [Option.some.injEq, Prod.mk.injEq] at hd
      obtain ⟨rfl, rfl⟩ := hd
      have hf : l = #[.slice none j' 0] := by rw [← Array.toList_inj, hf]
      subst hf
      have h0 := h.zero_of_basic rfl
      generalize hg : Value.func (Fn.yield 2) f #[.slice none j' 0] = d at h0
      cases h0 with
      | fptr val h1 h2 => simp [Abs.fptr] at hg; obtain ⟨h3, rfl⟩ := hg; subst h3; exact ⟨_, _, val, rfl, by simpa using h1, by simpa using h2⟩
      | plain hp => subst hg; simp [plain1] at hp
      | mark _ _ => simp [mk] at hg
      | deep _ => simp [dsl] at hg
      | osl _ _ _ => simp [Abs.osq] at hg
      | rptr _ => simp [Abs.rptr] at hg
      | mbool => simp [mkb] at hg
      | _ => cases hg
    · cases hd
  · cases hd

theorem view1_ok {z x v' : Value} (h : DR μ.z (norm1 z x) v') : VR0 μ (view1 std z x) v' := by
  have plain : ∀ {u : Value}, plain1 u = true → DR μ.z u v' → v' = u := by
    intro u hp hd
    cases hd with
    | plain _ => rfl
    | nil => simp [not_plain_dsl] at hp
    | sl _ _ _ _ _ => simp [not_plain_dsl] at hp
  unfold norm1 at h
  unfold view1
  split at h
  · rw [plain rfl h]; exact .mark (.plain rfl) rfl
  · rw [plain rfl h]; exact .mark (.plain rfl) rfl
  · rw [plain rfl h]; exact .mbool
  · rename_i f ys
    show VR0 μ (.func (.yield 1) f (dels x).toArray) v'
    generalize Value.func (Fn.yield 1) f (dels x).toArray = d at h
    cases h with
    | plain hp => exact .plain hp
    | nil => exact .deep .nil
    | sl val h1 h2 h3 h4 => exact .deep (.sl val h1 h2 h3 h4)
  · rename_i h1 h2 h3 h4
    split
    · exact absurd rfl (h1 _ _)
    · exact absurd rfl (h2 _)
    · exact absurd rfl (h3 _)
    · exact absurd rfl (h4 _ _)
    · split at h
      · rename_i hp; rw [if_pos hp, plain hp h]; exact .plain hp
      · rename_i hp; rw [if_neg hp, plain rfl h]; exact .plain rfl
theorem viewC_len (z x : Value) : (viewC std z x).length = z.cells.size := by
  unfold viewC
  split
  · simp [Value.cells]
  · rename_i h
    cases z <;> first | rfl | exact absurd rfl (h _)
theorem viewC_ok {z x u v' : Value} {j : Nat} (hu : (viewC std z x)[j]? = some u) (h : ∀ y, (cellsN z x)[j]? = some y → DR μ.z y v') : VR0 μ u v' := by
  unfold viewC at hu
  unfold cellsN at h
  split at hu
  · rename_i zs
    rw [List.getElem?_map, List.getElem?_zipIdx] at hu
    simp only [List.getElem?_map, List.getElem?_zipIdx] at h
    cases hz : zs.toList[j]? with
    | none => rw [hz] at hu; cases hu
    | some z' =>
      rw [hz] at hu h
      simp only [Option.map_some, Option.some.injEq, Nat.zero_add] at hu h
      subst hu
      exact view1_ok (h _ rfl)
  · rename_i hna
    cases j with
    | succ j => simp at hu
    | zero =>
      simp only [List.getElem?_cons_zero, Option.some.injEq] at hu
      subst hu
      split at h
      · exact absurd rfl (hna _)
      · exact view1_ok (h _ rfl)

theorem frozen_cell {g : Gm} (hr : Rel μ base g w) {c i : Nat} {a : Value} (h : μ.z c i = some a) : w.cell? ⟨c, i, none⟩ = some a := by
  obtain ⟨⟨arr, e, fr, h1, h2⟩, _⟩ := hr.frz c i a h
  rw [cell_of_row w c _ arr e fr h1, h2]

theorem dr_index {z v' : Value} {xs : List Value} (h : DR μ.z (dsl z xs) v') {i : Nat} (hi : i < xs.length) :
    ∃ (c o k : Nat), v' = .slice (some ⟨c, o, none⟩) xs.length k ∧ xs.length ≤ k ∧ ∀ j, VR0 μ (fptr (viewC std z (xs.getD i z)) j) (.pointer (some ⟨c, o + i * z.cells.size + j, none⟩)) := by
  rcases h.inv with ⟨rfl, _⟩ | ⟨c, o, k, val, rfl, hk, h1, h2⟩
  · simp at hi
  · refine ⟨c, o, k, rfl, hk, fun j => .fptr (fun j => val (i * z.cells.size + j)) (fun j u hu => ?_) (fun j u hu => ?_)⟩
    · have hj : j < z.cells.size := by
        have := (List.getElem?_eq_some_iff.1 hu).1
        rwa [viewC_len] at this
      have hf := flatN_get (xs := xs) hi hj
      have hl : j < (cellsN z (xs.getD i z)).length := by rw [cellsN_len]; exact hj
      rw [List.getElem?_eq_getElem hl] at hf
      have := h1 _ _ hf
      rw [← this]; congr 1; omega
    · have hj : j < z.cells.size := by
        have := (List.getElem?_eq_some_iff.1 hu).1
        rwa [viewC_len] at this
      refine viewC_ok hu fun y hy => h2 _ y ?_
      rw [flatN_get hi hj]; exact hy

theorem dr_slice {z v' : Value} {xs : List Value} {l y : Nat} (hl : l ≤ y) (hy : y ≤ xs.length) (h : DR μ.z (dsl z xs) v') :
    ∃ a k, v' = .slice a xs.length k ∧ xs.length ≤ k ∧ DR μ.z (dsl z ((xs.drop l).take (y - l))) (.slice (if k = l then a else a.map (·.add (l * z.cells.size))) (y - l) (k - l)) := by
  rcases h.inv with ⟨rfl, a, k, rfl⟩ | ⟨c, o, k, val, rfl, hk, h1, h2⟩
  · have : y = 0 := by simpa using hy
    subst this
    have : l = 0 := by omega
    subst this
    exact ⟨a, k, rfl, Nat.zero_le _, by simpa using DR.nil⟩
  · refine ⟨_, k, rfl, hk, ?_⟩
    by_cases e : y - l = 0
    · rw [e, List.take_zero]; exact .nil
    · rw [if_neg (by omega)]
      have ha : Option.map (fun x : Addr => x.add (l * z.cells.size)) (some ⟨c, o, none⟩) = some ⟨c, o + l * z.cells.size, none⟩ := by
        simp only [Option.map_some, Option.some.injEq]
        unfold Addr.add; split
        · simp_all
        · rfl
      rw [ha]
      have at' : ∀ i v, (flatN z ((xs.drop l).take (y - l)))[i]? = some v → (flatN z xs)[l * z.cells.size + i]? = some v := by
        intro i v hv
        rw [flatN_take, flatN_drop, List.getElem?_take] at hv
        split at hv
        · rw [List.getElem?_drop] at hv; exact hv
        · cases hv
      refine .sl (fun i => val (l * z.cells.size + i)) (by rw [List.length_take, List.length_drop]; omega) (by omega) (fun i v hv => ?_) (fun i v hv => h2 _ v (at' i v hv))
      rw [← h1 _ v (at' i v hv)]; congr 1; omega

theorem oper_mem {ρ ρ' : Operand → Value} {o : Oper} {x : Operand} (hr : OpR μ ρ ρ' o.op.operands.toList) (hx : x ∈ o.op.operands.toList) : VR μ (ρ x) (ρ' x) := hr x hx

theorem symDT_ok {ρ : Operand → Value} {o : Oper} {h : Hp} {alts : List Alt} (e : symDT std P ρ o h = some alts) : kindOf P o.op = .T ∧ AltsOk alts fun a => a.h = h ∧ SemT P ρ o a.v := by
  unfold symDT at e
  split at e
  · -- a length
    rename_i args argTypes ho
    split at e
    case h_2 => cases e
    rename_i t ht
    split at e
    case h_2 => cases e
    rename_i el v hu hargs
    split at e
    case h_2 => cases e
    rename_i z xs hd
    refine ⟨by rw [ho]; simp only [kindOf, ht, Option.bind_some, hu], alts_pure e ⟨rfl, ?_⟩⟩
    intro μ ρ' w hr
    have hx : ∃ x, args = #[x] ∧ ρ x = v := by
      obtain ⟨l⟩ := args
      match l, hargs with
      | [x], hargs => exact ⟨x, rfl, by simpa using hargs⟩
    obtain ⟨x, rfl, rfl⟩ := hx
    have hv := deep_inv hd (hr x (by rw [ho]; simp [Op.operands, Call.operands]))
    refine ⟨goInt xs.length, ?_, by split; exact .plain1 rfl; exact .zero (.mark (.plain rfl) rfl)⟩
    have hlen : ∃ a k, ρ' x = .slice a xs.length k := by
      rcases hv.inv with ⟨rfl, a, k, e⟩ | ⟨c, o, k, val, e, _⟩
      · exact ⟨a, k, e⟩
      · exact ⟨_, k, e⟩
    obtain ⟨a, k, hs⟩ := hlen
    obtain ⟨dst, op, ty, pos, after, guard⟩ := o
    simp only at ho; subst ho
    simp only [execOp, resolve, invoke, Sem.run_bind, Sem.run_pure, Result.andThen_ok]
    simp [builtin, Builtin.len_, ht, hs, run_underlying hu]
  · -- a place
    rename_i t x i ho
    split at e
    case h_2 => cases e
    rename_i el z xs k n hu hd hi
    split at e
    case isFalse => cases e
    rename_i hsz
    refine ⟨by rw [ho]; rfl, alts_one e fun hob => ⟨rfl, ?_⟩⟩
    obtain ⟨h0, h1⟩ := hob
    have h0 : 0 ≤ n := h0
    have h1 : n < (xs.length : Int) := h1
    intro μ ρ' w hr
    have hv := deep_inv hd (hr x (by rw [ho]; simp [Op.operands]))
    have hin := (hr i (by rw [ho]; simp [Op.operands])).den
    rw [hi] at hin
    have hin := hin.inv_int
    have hlt : n.toNat < xs.length := by omega
    obtain ⟨c, of, kk, hs, _, hp⟩ := dr_index hv hlt
    refine ⟨.pointer (some ⟨c, of + n.toNat * z.cells.size, none⟩), ?_, .zero (hp 0)⟩
    obtain ⟨dst, op, ty, pos, after, guard⟩ := o
    simp only at ho; subst ho
    have hadd : (⟨c, of, none⟩ : Addr).add (n.toNat * z.cells.size) = ⟨c, of + n.toNat * z.cells.size, none⟩ := by
      unfold Addr.add; split
      · simp_all
      · rfl
    have hb : 0 ≤ n ∧ n < (xs.length : Int) := ⟨h0, h1⟩
    simp [execOp, Instr.indexAt, asIntOf, run_underlying hu, hin, hs, hb, szA_run hsz, hadd]
  · -- a field's place
    rename_i s x f ho
    split at e
    case h_2 => cases e
    rename_i fs cs j hu hd
    split at e
    case h_2 => cases e
    rename_i fd hf
    split at e
    case h_2 => cases e
    rename_i n hsz
    refine ⟨by rw [ho]; rfl, alts_pure e ⟨rfl, ?_⟩⟩
    intro μ ρ' w hr
    obtain ⟨c, of, val, hs, h1, h2⟩ := fptr_inv hd (hr x (by rw [ho]; simp [Op.operands]))
    refine ⟨.pointer (some ⟨c, of + (j + fd.offset), none⟩), ?_, .zero (.fptr val h1 h2)⟩
    obtain ⟨dst, op, ty, pos, after, guard⟩ := o
    simp only at ho; subst ho
    have hadd : (⟨c, of + j, none⟩ : Addr).add fd.offset = ⟨c, of + (j + fd.offset), none⟩ := by
      unfold Addr.add; split
      · simp_all
      · simp; omega
    simp [execOp, Instr.fieldAt, run_underlying hu, hf, hs, Instr.sureAddr, fieldPlace, szA_run hsz, hadd]
  · -- no nil
    rename_i x ho
    split at e
    case h_2 => cases e
    rename_i p hd
    refine ⟨by rw [ho]; rfl, alts_pure e ⟨rfl, ?_⟩⟩
    intro μ ρ' w hr
    obtain ⟨cs, j⟩ := p
    have hx := hr x (by rw [ho]; simp [Op.operands])
    obtain ⟨c, of, val, hs, h1, h2⟩ := fptr_inv hd hx
    refine ⟨ρ' x, ?_, hx⟩
    obtain ⟨dst, op, ty, pos, after, guard⟩ := o
    simp only at ho; subst ho
    simp only [execOp, hs]
    rfl
  · -- a part
    rename_i t x lo hi ho
    split at e
    case h_2 => cases e
    rename_i el z xs hu hd
    split at e
    case h_2 => cases e
    rename_i sz o1 y hsz hy
    split at e
    case isFalse => cases e
    rename_i hszz
    split at e
    case h_2 => cases e
    rename_i o2 l hl
    refine ⟨by rw [ho]; rfl, alts_one e fun hob => ⟨rfl, ?_⟩⟩
    have hy := bound_ok hy hob.1
    have hl := bound_ok hl hob.2
    intro μ ρ' w hr
    have hv := deep_inv hd (hr x (by rw [ho]; simp [Op.operands]))
    have opt : ∀ {x : Option Operand}, (∀ y, x = some y → y ∈ o.op.operands.toList) → OptR μ (x.map fun x => den (ρ x)) (x.map ρ') := by
      intro x hm
      exact optR_map (ρ := fun x => den (ρ x)) fun y hy => (hr y (hm y hy)).den
    have ohi : OptR μ (hi.map fun x => den (ρ x)) (hi.map ρ') := opt fun y hy => by rw [ho]; subst hy; simp [Op.operands]
    have olo : OptR μ (lo.map fun x => den (ρ x)) (lo.map ρ') := opt fun y hy => by rw [ho]; subst hy; simp [Op.operands]
    have hyl : y ≤ xs.length := by
      rcases boundA_some hy ohi.1 ohi.2 with ⟨_, h⟩ | ⟨k, n, _, h1, h2, h3⟩
      · have h : y = xs.length := h
        omega
      · have h2 : n ≤ (xs.length : Int) := h2
        omega
    have hll : l ≤ y := by
      rcases boundA_some hl olo.1 olo.2 with ⟨_, h⟩ | ⟨k, n, _, h1, h2, h3⟩ <;> omega
    obtain ⟨a, k, hs, hk, hdr⟩ := dr_slice hll hyl hv
    refine ⟨_, ?_, .zero (.deep hdr)⟩
    have hb := sliceBounds_run (P := P) (μ := μ) (b := true) (len := xs.length) (cap := k) (known := xs.length) (m := k) (mx := none) (mx' := none) hk ⟨fun v h => (by cases h), fun _ => rfl⟩ ohi olo (.inl ⟨rfl, hy, rfl⟩) hl w
    obtain ⟨dst, op, ty, pos, after, guard⟩ := o
    simp only at ho; subst ho
    subst hszz
    simp only [execOp, Instr.sliceAt, Instr.slice, Sem.run_bind, run_underlying hu, Result.andThen_ok, hs, Option.map_none, hb, szA_run hsz, Sem.run_pure]
  · -- held against nil
    rename_i op t x y _ ho
    split at e
    case h_2 => cases e
    rename_i el z xs n k hu hd hy
    have key : ∀ (r : Bool), (∀ a m k, binOp op t (.slice (some a) m k) (.slice none 0 0) = (Op.equal t (.slice (some a) m k) (.slice none 0 0) >>= fun q => pure (.bool (match r with | true => !q | false => q)))) → 0 < xs.length → SemT P ρ o (.bool r) := by
      intro r hop hpos μ ρ' w hr
      have hv := deep_inv hd (hr x (by rw [ho]; simp [Op.operands]))
      have hyv := hr y (by rw [ho]; simp [Op.operands])
      rw [hy] at hyv
      obtain ⟨rfl, rfl, hy'⟩ := hyv.inv_slice_nil
      have hs : ∃ a m k', ρ' x = .slice (some a) m k' := by
        rcases hv.inv with ⟨rfl, _⟩ | ⟨c, of, k', val, e, _⟩
        · simp at hpos
        · exact ⟨_, _, _, e⟩
      obtain ⟨a, m, k', hs⟩ := hs
      refine ⟨.bool r, ?_, .plain1 rfl⟩
      obtain ⟨dst, op', ty, pos, after, guard⟩ := o
      simp only at ho; subst ho
      have he : (Op.equal t (.slice (some a) m k') (.slice none 0 0)).run P w = .ok false w := by
        rw [Op.equal, Op.maxDepth, Op.equalIn]; simp only [Sem.run_bind, run_underlying hu, Result.andThen_ok]; rfl
      simp only [execOp, hs, hy']
      rw [eqGuard_none _ _ _ _ _ _ (by simp) (by simp), hop]
      simp only [Sem.run_bind, Sem.run_pure, Result.andThen_ok, he]
      cases r <;> rfl
    refine ⟨by rw [ho]; rfl, ?_⟩
    split at e
    · exact alts_one e fun hob => ⟨rfl, key false (fun _ _ _ => rfl) hob⟩
    · exact alts_one e fun hob => ⟨rfl, key true (fun _ _ _ => rfl) hob⟩
    · cases e
  · cases e

theorem symDR_ok {ρ : Operand → Value} {o : Oper} {h : Hp} {alts : List Alt} (e : symDR std P ρ o h = some alts) : kindOf P o.op = .R ∧ AltsOk alts fun a => a.h = h ∧ ∀ h', SemR P ρ o h' a.v := by
  unfold symDR at e
  split at e
  · rename_i t a ho
    split at e
    case h_2 => cases e
    rename_i cs j d n hd hu hsz
    refine ⟨by rw [ho]; rfl, ?_⟩
    have cell : ∀ {μ : Mu} {base : Nat} {w : World} {h' : Hp} {ρ' : Operand → Value}, OpR μ ρ ρ' o.op.operands.toList → Rel μ base h'.get w → ∃ (c of : Nat) (val : Nat → Value), ρ' a = .pointer (some ⟨c, of + j, none⟩) ∧ (∀ i u, cs[i]? = some u → w.cell? ⟨c, of + i, none⟩ = some (val i)) ∧ (∀ i u, cs[i]? = some u → VR0 μ u (val i)) := by
      intro μ base w h' ρ' hr hrel
      obtain ⟨c, of, val, hs, h1, h2⟩ := fptr_inv hd (hr a (by rw [ho]; simp [Op.operands]))
      exact ⟨c, of, val, hs, fun i u hu => frozen_cell hrel (h1 i u hu), h2⟩
    split at e
    · rename_i hag
      split at e
      case isFalse => cases e
      rename_i hlen
      refine alts_pure e ⟨rfl, fun h' {μ base w ρ'} hr hrel => ?_⟩
      obtain ⟨c, of, val, hs, h1, h2⟩ := cell hr hrel
      have hl : ((cs.drop j).take n).length = n := by rw [List.length_take, List.length_drop]; omega
      refine ⟨.agg ((List.range n).map fun i => val (j + i)).toArray, ?_, .agg ?_⟩
      · have hc := run_loadCells_list (P := P) w ⟨c, of + j, none⟩ ((List.range n).map fun i => val (j + i)) (fun i v hv => by
          rw [List.getElem?_map] at hv
          cases hri : (List.range n)[i]? with
          | none => rw [hri] at hv; cases hv
          | some i' =>
            have hlt := (List.getElem?_eq_some_iff.1 hri)
            obtain ⟨hlt, he⟩ := hlt
            simp at he hlt
            subst he
            rw [hri] at hv
            simp only [Option.map_some, Option.some.injEq] at hv
            subst hv
            have := h1 (j + i) _ (List.getElem?_eq_getElem (by omega))
            rw [← this]
            congr 1
            unfold Addr.add; split
            · simp_all
            · simp; omega)
        simp only [List.length_map, List.length_range] at hc
        obtain ⟨dst, op, ty, pos, after, guard⟩ := o
        simp only at ho; subst ho
        simp [execOp, Instr.loadAt, loadVar, Instr.sureAddr, hs, isAgg_run hu, hag, szA_run hsz, hc]
      · simp only
        refine ⟨by rw [hl]; simp, fun i u hu' => ?_⟩
        have hi : i < n := by have := (List.getElem?_eq_some_iff.1 hu').1; rw [hl] at this; exact this
        rw [List.getElem?_take, if_pos hi, List.getElem?_drop] at hu'
        exact ⟨val (j + i), by simp [hi], .zero (h2 _ u hu')⟩
    · rename_i hag
      have hag : isAggD d = false := by simpa using hag
      split at e
      case h_2 => cases e
      rename_i v hv
      refine alts_pure e ⟨rfl, fun h' {μ base w ρ'} hr hrel => ?_⟩
      obtain ⟨c, of, val, hs, h1, h2⟩ := cell hr hrel
      refine ⟨val j, ?_, .zero (h2 j v hv)⟩
      have hc := h1 j v hv
      obtain ⟨dst, op, ty, pos, after, guard⟩ := o
      simp only at ho; subst ho
      simp [execOp, Instr.loadAt, loadVar, Instr.sureAddr, hs, isAgg_run hu, hag, hc]
  · rename_i src dst x ho
    split at e
    case h_2 => cases e
    rename_i el hs hd
    split at e
    case h_2 => cases e
    rename_i nz xs he hx
    refine ⟨by rw [ho]; simp only [kindOf, hs, hd], alts_pure e ⟨rfl, fun h' {μ base w ρ'} hr hrel => ?_⟩⟩
    have hv := deep_inv hx (hr x (by rw [ho]; simp [Op.operands]))
    refine ⟨.string (std.sof (std.ints xs)), ?_, .zero (.mark (.plain rfl) rfl)⟩
    have key : (convert src dst (ρ' x)).run P w = .ok (.string (std.sof (std.ints xs))) w := by
      rcases hv.inv with ⟨rfl, a, k, e⟩ | ⟨c, of, k, val, e, hk, h1, h2⟩
      · rw [e]
        cases a with
        | none => exact run_convert_bytes_nil w src el hs he 0 k dst hd
        | some a =>
          rw [run_convert_bytes_string w src dst el _ 0 k hs he hd, run_bytesToString w _ 0 k [] rfl]
          rfl
      · rw [e]
        have hfl : ∀ (l : List Value) (k : Int), flatN (.int .u8 k) l = (std.ints l).map (Value.int .u8) := by
          intro l k
          induction l with
          | nil => rfl
          | cons y l ih => rw [flatN_cons, ih]; rfl
        have hlc := run_loadCells_list (P := P) w ⟨c, of, none⟩ ((std.ints xs).map (Value.int .u8)) (fun i v hv => by
          have hf : (flatN (.int .u8 nz) xs)[i]? = some v := by rw [hfl]; exact hv
          have h3 := h2 i v hf
          have h4 := frozen_cell hrel (h1 i v hf)
          have h5 : val i = v := by
            rw [List.getElem?_map] at hv
            cases hx : (std.ints xs)[i]? with
            | none => rw [hx] at hv; cases hv
            | some n =>
              rw [hx] at hv
              simp only [Option.map_some, Option.some.injEq] at hv
              subst hv
              generalize val i = u at h3
              cases h3 with
              | plain _ => rfl
          rw [h5] at h4
          rw [← h4]
          congr 1
          unfold Addr.add; split
          · simp_all
          · rfl)
        have hl : ((std.ints xs).map (Value.int .u8)).length = xs.length := by rw [List.length_map]; exact List.length_map ..
        rw [hl] at hlc
        rw [run_convert_bytes_string w src dst el _ xs.length k hs he hd, run_bytesToString w _ xs.length k _ hlc, foldl_push_bytes]
        show Result.ok (Value.string ⟨#[] ++ ((std.ints xs).map fun n => UInt8.ofNat n.toNat).toArray⟩) w = Result.ok (Value.string ⟨((std.ints xs).map fun n => UInt8.ofNat n.toNat).toArray⟩) w
        rw [Array.empty_append]
    obtain ⟨dst', op, ty, pos, after, guard⟩ := o
    simp only at ho; subst ho
    simp only [execOp, Sem.run_bind, key, Result.andThen_ok, Sem.run_pure]
  · cases e
end
end Go.Abs
end
section
namespace Go.Abs
open Go

noncomputable section
variable (S : Sy)
/-- A literal slice as immutable data. -/
def symDN (P : Program) (ρ : Operand → Value) (o : Oper) : Option (Blk × (Nat → Value)) :=
  match o.op with
  | .buildSlice t len _ => match P.underlying t with
    | some (.slice e) => match zeroD P 6 e, stepN P ρ o with
      | some z, some (.cells cs _, _) => match rawElems (deepV H0 (fun _ => false) 6) z len cs with
        | some xs => if len < UNK0 then some (.cells [] true, fun _ => olit z xs) else none
        | none => none
      | _, _ => none
    | _ => none
  | _ => none
/-- What is appended to: the elements (none: there is nothing), the heap without the right to append. -/
def baseD (z s : Value) (h : Hp) : Option (Option (List Value) × Hp) :=
  match s with
  | .slice none 0 0 => some (none, h)
  | .func (.yield 5) f xs => match f.toList with
    | [z0, .slice none b 0] => if zeq 5 z0 z then
        match h.get b with
          | some (.cells [] false) => some (some xs.toList, h.put b none)
          | _ => none
      else none
    | [z0, .slice none _ 1] => if zeq 5 z0 z then some (match xs.toList with | [] => none | l => some l, h) else none
    | _ => none
  | .slice (some ⟨b, o, none⟩) n k => if k = n ∧ k < UNK0 then match h.get b with
    | some (.cells cs false) => match rawElems (deepV h (fun _ => false) 6) z n (cs.drop o) with
      | some xs => some (if n = 0 then none else some xs, h.put b (some (.cells cs true)))
      | none => none
    | _ => none
    else none
  | _ => none
/-- What is appended. -/
def srcD (P : Program) (z : Value) (xt : TypeId) (x : Value) (h : Hp) : Option (List Value) :=
  match P.underlying xt with
  | some .string => match den x, z with
    | .string s, .int .u8 0 => some (S.svals s)
    | _, _ => none
  | some (.slice _) => match asDeep x with
    | some (z0, ys) => if zeq 5 z0 z then some ys else none
    | none => match x with
      | .slice none 0 0 => some []
      | .slice (some ⟨b, o, none⟩) m _ => match h.get b with
        | some (.cells cs _) => rawElems (deepV h (fun _ => false) 6) z m (cs.drop o)
        | _ => none
      | _ => none
  | _ => none
def joinD (xs : Option (List Value)) (ys : List Value) : List Value :=
  match xs with
  | none => ys
  | some xs => S.app xs ys
def symAD (P : Program) (st xt : TypeId) (s x : Value) (h : Hp) : Option (List Alt) :=
  match P.underlying st with
  | some (.slice e) => match P.info? e, zeroA P e, zeroD P 6 e with
    | some i, some z0, some z =>
      if 0 < i.size ∧ z0.cells.size = i.size ∧ z.cells.size = i.size ∧ 0 < i.bytes then
        match baseD z s h, srcD S P z xt x h with
        | some (xs, h1), some ys => one (h1.push (.cells [] false)) (S.nle (S.nmul (S.len (joinD S xs ys)) i.bytes) 140737488355328) (osl z (joinD S xs ys) h1.next)
        | _, _ => none
      else none
    | _, _, _ => none
  | _ => none
/-- Copied into a row of a block: numbers of immutable data. -/
def symCD (P : Program) (dt xt : TypeId) (d x : Value) (h : Hp) : Option (List Alt) :=
  match P.underlying dt, P.underlying xt with
  | some (.slice e), some (.slice _) => match szA P e, asDeep x with
    | some 1, some (.int k 0, ys) => match den d with
      | .slice (some ⟨b, o, none⟩) len _ => match h.get b with
        | some (.row r1 false) => match r1.lay S o (S.len ys) (.ints k (S.ints ys)) with
          | some r3 => one (h.put b (some (.row r3 false))) (S.nle (S.len ys) len ∧ S.nle (S.nadd o len) (r1.many S)) (mk (.int .i64 (S.int (S.len ys))))
          | none => none
        | _ => none
      | _ => none
    | _, _ => none
  | _, _ => none
/-- In a region whose order is told. -/
def stepG (P : Program) (ρ : Operand → Value) (o : Oper) (h : Hp) : Option (List Alt) :=
  if o.op.operands.toList.all okOperand then
    match o.op with
    | .call { callee := .builtin .append, args, argTypes } => match argTypes.toList, args.toList with
      | [st, xt], [s, x] => symAD S P st xt (ρ s) (ρ x) h
      | _, _ => none
    | .call { callee := .builtin .copy, args, argTypes } => match argTypes.toList, args.toList with
      | [dt, xt], [d, x] => symCD S P dt xt (ρ d) (ρ x) h
      | _, _ => none
    | .convert src dst x => match P.underlying src, P.underlying dst, den (ρ x) with
      | some .string, some (.slice e), .string s => match P.underlying e with
        | some (.int .u8) => pure1 h (dsl (.int .u8 0) (S.svals s))
        | _ => none
      | _, _, _ => none
    | _ => none
  else none
end

/-- A step behind which a block may be one that is only read. -/
structure SimW (μ : Mu) (base : Nat) (g : Gm) (w : World) (μ' : Mu) (g' : Gm) (w' : World) : Prop where
  le : Mu.le μ μ'
  rel : Rel μ' base g' w'
  fr : Fr μ g w w'
  own : ∀ b p x, μ' b = some p → g' b = some x → w.heap.size ≤ p.c ∨ ∃ b0 p0 x0, μ b0 = some p0 ∧ g b0 = some x0 ∧ (ownB x = true → ownB x0 = true) ∧ p0.c = p.c
  fz : ∀ c i a, μ'.z c i = some a → μ.z c i = some a ∨ w.heap.size ≤ c ∨ ∃ b0 p0 x0, μ b0 = some p0 ∧ g b0 = some x0 ∧ ownB x0 = true ∧ p0.c = c
theorem Sim.toW {μ μ' : Mu} {base : Nat} {g g' : Gm} {w w' : World} (h : Sim μ base g w μ' g' w') : SimW μ base g w μ' g' w' := by
  refine ⟨h.le, h.rel, h.fr, fun b p x hb hx => ?_, h.fz⟩
  rcases h.own b p x hb hx with h1 | ⟨b0, p0, x0, h1, h2, h3, h4⟩
  · exact .inl h1
  · exact .inr ⟨b0, p0, x0, h1, h2, h3, h4⟩
theorem SimW.trans {μ μ1 μ2 : Mu} {base : Nat} {g g1 g2 : Gm} {w w1 w2 : World} (h : SimW μ base g w μ1 g1 w1) (k : SimW μ1 base g1 w1 μ2 g2 w2) : SimW μ base g w μ2 g2 w2 := by
  refine ⟨Mu.le_trans h.le k.le, k.rel, ⟨k.fr.os.trans h.fr.os, k.fr.tape.trans h.fr.tape, k.fr.output.trans h.fr.output, Nat.le_trans h.fr.size k.fr.size, fun c hc hn => ?_⟩, fun b p x hb hg => ?_, fun c i a hc => ?_⟩
  · rw [k.fr.block c (Nat.lt_of_lt_of_le hc h.fr.size) ?_, h.fr.block c hc hn]
    intro b p x hb hg ho e
    rcases h.own b p x hb hg with h1 | ⟨b0, p0, x0, h1, h2, h3, h4⟩
    · omega
    · exact hn b0 p0 x0 h1 h2 (h3 ho) (h4.trans e)
  · rcases k.own b p x hb hg with h1 | ⟨b0, p0, x0, h1, h2, h3, h4⟩
    · exact .inl (Nat.le_trans h.fr.size h1)
    · rcases h.own b0 p0 x0 h1 h2 with h5 | ⟨b1, p1, x1, h5, h6, h7, h8⟩
      · exact .inl (by omega)
      · exact .inr ⟨b1, p1, x1, h5, h6, fun h => h7 (h3 h), h8.trans h4⟩
  · rcases k.fz c i a hc with h1 | h1 | ⟨b0, p0, x0, h1, h2, ho, h3⟩
    · exact h.fz c i a h1
    · exact .inr (.inl (Nat.le_trans h.fr.size h1))
    · rcases h.own b0 p0 x0 h1 h2 with h5 | ⟨b1, p1, x1, h5, h6, h7, h8⟩
      · exact .inr (.inl (by omega))
      · exact .inr (.inr ⟨b1, p1, x1, h5, h6, h7 ho, h8.trans h3⟩)

/-- What of a result, where blocks may be frozen. -/
structure OutG (μ : Mu) (base : Nat) (h : Hp) (w : World) (v : Value) (h' : Hp) (v' : Value) (w' : World) (μ' : Mu) : Prop where
  val : VR μ' v v'
  sim : SimW μ base h.get w μ' h'.get w'
  next : h.next ≤ h'.next
  dom : ∀ b, μ' b ≠ μ b → h.next ≤ b ∧ b < h'.next
theorem OutG.out {μ : Mu} {base : Nat} {h : Hp} {w : World} {v : Value} {h' : Hp} {v' : Value} {w' : World} {μ' : Mu} (o : OutG μ base h w v h' v' w' μ') (hk : Keeps μ h h') : Out μ base h w v h' v' w' μ' :=
  ⟨o.val, ⟨o.sim.le, o.sim.rel, o.sim.fr, o.sim.own, o.sim.fz⟩, o.next, o.dom, hk⟩

section
variable {P : Program} {μ : Mu} {base : Nat} {w : World}

open Classical in
/-- More cells frozen: of one block, from a place to another one. -/
noncomputable def zAdd (z : Nat → Nat → Option Value) (c lo hi : Nat) (arr : Array Value) : Nat → Nat → Option Value := fun d i =>
  if d = c ∧ lo ≤ i ∧ i < hi then arr[i]? else z d i
noncomputable def muZ (μ : Mu) (c lo hi : Nat) (arr : Array Value) : Mu := ⟨μ.f, zAdd μ.z c lo hi arr⟩
theorem muZ_le {g : Gm} {c lo hi : Nat} {arr : Array Value} {e : TypeId} {fr : Nat × Nat} (hr : Rel μ base g w) (hc : w.heap[c]? = some (.cells arr e fr)) : Mu.le μ (muZ μ c lo hi arr) := by
  refine ⟨fun _ _ h => h, fun d i a h => ?_⟩
  show zAdd μ.z c lo hi arr d i = some a
  unfold zAdd
  split
  · rename_i hcnd
    obtain ⟨rfl, _⟩ := hcnd
    obtain ⟨arr', e', fr', h1, h2⟩ := (hr.frz d i a h).1
    rw [hc] at h1
    simp only [Option.some.injEq, Obj.cells.injEq] at h1
    obtain ⟨rfl, _⟩ := h1
    exact h2
  · exact h
theorem muZ_rel {g : Gm} {c lo hi : Nat} {arr : Array Value} {e : TypeId} {fr : Nat × Nat} (hr : Rel μ base g w) (hc : w.heap[c]? = some (.cells arr e fr))
    (hown : ∀ b p x, μ b = some p → g b = some x → ownB x = true → p.c = c → hi ≤ p.s) : Rel (muZ μ c lo hi arr) base g w := by
  refine ⟨hr.size, fun b p x hb hx => (hr.blk b p x hb hx).keep (muZ_le hr hc) rfl, hr.inj, fun d i a hd => ?_⟩
  have hd' : zAdd μ.z c lo hi arr d i = some a := hd
  unfold zAdd at hd'
  by_cases hcnd : d = c ∧ lo ≤ i ∧ i < hi
  · rw [if_pos hcnd] at hd'
    obtain ⟨rfl, h1, h2⟩ := hcnd
    exact ⟨⟨arr, e, fr, hc, hd'⟩, fun b p x hb hx ho hcc => Nat.lt_of_lt_of_le h2 (hown b p x hb hx ho hcc)⟩
  · rw [if_neg hcnd] at hd'
    exact hr.frz d i a hd'
theorem muZ_sim {μ1 : Mu} {g g1 : Gm} {w1 : World} {c lo hi : Nat} {arr : Array Value} {e : TypeId} {fr : Nat × Nat} (h : SimW μ base g w μ1 g1 w1) (hc : w1.heap[c]? = some (.cells arr e fr))
    (hown : ∀ b p x, μ1 b = some p → g1 b = some x → ownB x = true → p.c = c → hi ≤ p.s) (hold : w.heap.size ≤ c ∨ ∃ b0 p0 x0, μ b0 = some p0 ∧ g b0 = some x0 ∧ ownB x0 = true ∧ p0.c = c) : SimW μ base g w (muZ μ1 c lo hi arr) g1 w1 := by
  refine ⟨Mu.le_trans h.le (muZ_le h.rel hc), muZ_rel h.rel hc hown, h.fr, fun b p x hb hx => h.own b p x hb hx, fun d i a hd => ?_⟩
  have hd : zAdd μ1.z c lo hi arr d i = some a := hd
  unfold zAdd at hd
  split at hd
  · rename_i hcnd
    obtain ⟨rfl, _⟩ := hcnd
    exact .inr hold
  · exact h.fz d i a hd

/-- What a base is like. -/
structure BaseOk (μ : Mu) (base : Nat) (w : World) (z : Value) (xs : List Value) (h h1 : Hp) (s' : Value) (μ1 : Mu) (bs : Option Addr) (k : Nat) : Prop where
  eq : s' = .slice bs xs.length k
  len : xs.length ≤ k
  f : ∀ b, μ1 b = μ b
  sim : SimW μ base h.get w μ1 h1.get w
  next : h1.next = h.next
  dr : DR μ1.z (dsl z xs) s'
  room : k = xs.length ∨ ∃ b p c o, bs = some ⟨c, o, none⟩ ∧ μ b = some p ∧ h.get b = some (.cells [] false) ∧ h1 = h.put b none ∧ μ1 = μ ∧ p.c = c ∧ p.s = o + xs.length * z.cells.size ∧ o + k * z.cells.size ≤ p.N

theorem elems_ok {z : Value} {h : Hp} (hr : Rel μ base h.get w) {m : Nat} {cs xs : List Value} (hd : rawElems (deepV h (fun _ => false) 6) z m cs = some xs) :
    xs.length = m ∧ (flatN z xs).length ≤ cs.length ∧ ∀ (i : Nat) y u v', (flatN z xs)[i]? = some y → cs[i]? = some u → VR1 μ u v' → DR μ.z y v' := by
  have hz : zf μ h.get w (fun _ => False) = μ.z := by
    funext c i
    unfold zf
    rw [if_neg (by rintro ⟨_, _, _, h, _⟩; exact h)]
  exact rawElems_ok (fz := μ.z) (fun {z v v' xs} hd hv => hz ▸ deepV_ok (S := fun _ => False) (ok := fun _ => false) (fun b hb => by cases hb) hr 6 hd hv) hd

theorem baseD_ok {z s s' : Value} {h h1 : Hp} {xo : Option (List Value)} (hb : baseD z s h = some (xo, h1)) (hr : Rel μ base h.get w) (hs : VR μ s s') (hz : 0 < z.cells.size) : ∃ μ1 bs k, BaseOk μ base w z (xo.getD []) h h1 s' μ1 bs k := by
  unfold baseD at hb
  split at hb
  · simp only [Option.some.injEq, Prod.mk.injEq] at hb
    obtain ⟨rfl, rfl⟩ := hb
    have := hs.eq_of_plain (v := .slice none 0 0) rfl; subst this
    exact ⟨μ, none, 0, rfl, Nat.le_refl _, fun _ => rfl, (Sim.refl hr).toW, rfl, .nil, .inl rfl⟩
  · rename_i f ys
    have key : ∀ {z0 : Value} {b q : Nat}, zeq 5 z0 z = true → f.toList = [z0, .slice none b q] → z0 = z ∧ ∃ n k a, s' = .slice a n k ∧ DR μ.z (dsl z ys.toList) s' ∧ ys.toList.length = n ∧ (k = n ∨ q = 0 ∧ ∃ p c o, a = some ⟨c, o, none⟩ ∧ μ b = some p ∧ p.c = c ∧ p.s = o + n * z.cells.size ∧ o + k * z.cells.size ≤ p.N) := by
      intro z0 b q hze hf
      have := zeq_eq hze; subst this
      have hf : f = #[z0, .slice none b q] := by rw [← Array.toList_inj, hf]
      subst hf
      have h0 := hs.zero_of_basic rfl
      refine ⟨rfl, ?_⟩
      generalize hg : Value.func (Fn.yield 5) #[z0, .slice none b q] ys = d at h0
      cases h0 with
      | osl hd h1 h2 => simp [Abs.osq] at hg; obtain ⟨⟨rfl, rfl, rfl⟩, h3⟩ := hg; subst h3; exact ⟨_, _, _, rfl, by simpa using hd, by simpa using h1, h2⟩
      | plain hp => subst hg; simp [plain1] at hp
      | mark _ _ => simp [mk] at hg
      | deep _ => simp [dsl] at hg
      | fptr _ _ _ => simp [Abs.fptr] at hg
      | rptr _ => simp [Abs.rptr] at hg
      | mbool => simp [mkb] at hg
      | _ => cases hg
    have hnk : ∀ {k : Nat} {a : Option Addr}, DR μ.z (dsl z ys.toList) (.slice a ys.toList.length k) → ys.toList.length ≤ k := by
      intro k a hd
      rcases hd.inv with ⟨hx, a', k', he⟩ | ⟨c, o, k', val, he, hk, _⟩
      · rw [hx]; exact Nat.zero_le _
      · simp at he; omega
    split at hb
    · rename_i z0 b hf
      split at hb
      case isFalse => cases hb
      rename_i hze
      obtain ⟨rfl, n, k, a, rfl, hd, rfl, hroom⟩ := key hze hf
      split at hb
      case h_2 => cases hb
      rename_i hget
      simp only [Option.some.injEq, Prod.mk.injEq] at hb
      obtain ⟨rfl, rfl⟩ := hb
      have hbn := Hp.lt_of_get hget
      refine ⟨μ, a, k, rfl, hnk hd, fun _ => rfl, ?_, rfl, hd, hroom.imp id fun ⟨_, p, c, o, h2, h3, h4, h5, h6⟩ => ⟨b, p, c, o, h2, h3, hget, rfl, rfl, h4, h5, h6⟩⟩
      refine (Sim.less (Sim.refl hr) fun c p x _ hx => ?_).toW
      rw [Hp.get_put _ _ _ _ hbn] at hx
      split at hx
      · cases hx
      · exact hx
    · rename_i z0 b hf
      split at hb
      case isFalse => cases hb
      rename_i hze
      obtain ⟨rfl, n, k, a, rfl, hd, rfl, hroom⟩ := key hze hf
      simp only [Option.some.injEq, Prod.mk.injEq] at hb
      obtain ⟨rfl, rfl⟩ := hb
      have hk : k = ys.toList.length := by
        rcases hroom with hk | ⟨h0, _⟩
        · exact hk
        · cases h0
      have hxo : (match ys.toList with | [] => none | l => some l : Option (List Value)).getD [] = ys.toList := by
        cases ys.toList <;> rfl
      rw [hxo]
      exact ⟨μ, a, k, rfl, hnk hd, fun _ => rfl, (Sim.refl hr).toW, rfl, hd, .inl hk⟩
    · cases hb
  · rename_i b o n k
    split at hb
    case isFalse => cases hb
    rename_i hc
    obtain ⟨rfl, hku⟩ := hc
    split at hb
    case h_2 => cases hb
    rename_i cs hget
    split at hb
    case h_2 => cases hb
    rename_i xs hxs
    simp only [Option.some.injEq, Prod.mk.injEq] at hb
    obtain ⟨rfl, rfl⟩ := hb
    obtain ⟨h2, h3, h4⟩ := elems_ok hr hxs
    have hxo : (if k = 0 then (none : Option (List Value)) else some xs).getD [] = xs := by
      split
      · rename_i h0; rw [h0] at h2; rw [List.eq_nil_of_length_eq_zero h2]; rfl
      · rfl
    rw [hxo]
    have hbn := Hp.lt_of_get hget
    have hroB : ∀ c, (h.put b (some (.cells cs true))).get c = gF h.get (fun c => c = b) c := by
      intro c
      rw [Hp.get_put _ _ _ _ hbn]
      unfold gF
      by_cases e : c = b
      · subst e; simp [hget, roB]
      · simp [e]
    have hfun : (h.put b (some (.cells cs true))).get = gF h.get (fun c => c = b) := funext hroB
    have hsim : SimW μ base h.get w (muF μ h.get w fun c => c = b) (h.put b (some (.cells cs true))).get w := by
      rw [hfun]
      refine ⟨muF_le hr _, freeze_rel hr _, Fr.refl _ _ _, fun c p x hp hx => ?_, fun c i a h => freeze_sim _ c i a h⟩
      unfold gF at hx
      split at hx
      · cases e : h.get c with
        | none => rw [e] at hx; cases hx
        | some x0 =>
          rw [e] at hx
          simp only [Option.map_some, Option.some.injEq] at hx; subst hx
          exact .inr ⟨c, p, x0, hp, e, fun h => (own_ro h).1, rfl⟩
      · exact .inr ⟨c, p, x, hp, hx, id, rfl⟩
    rcases hs.inv_slice with ⟨p, k', hp, rfl, hlk, hk⟩ | ⟨rfl, hk, a', ⟨p, hp⟩, rfl⟩
    · have hkk : k' = k := by
        rcases hk with ⟨h5, _⟩ | ⟨h5, _⟩
        · omega
        · exact h5.symm
      subst hkk
      obtain ⟨arr, e, fr, h5, h6, h7, h8⟩ := hr.blk b p _ hp hget
      have cell : ∀ (i : Nat) y, (flatN z xs)[i]? = some y → ∃ u v', cs[o + i]? = some u ∧ arr[p.s + (o + i)]? = some v' ∧ VR1 μ u v' := by
        intro i y hy
        have hi := (List.getElem?_eq_some_iff.1 hy).1
        rw [List.length_drop] at h3
        have hu := List.getElem?_eq_getElem (l := cs) (i := o + i) (by omega)
        obtain ⟨v', h9, h10⟩ := h7 _ _ hu
        exact ⟨_, v', hu, h9, h10⟩
      refine ⟨muF μ h.get w (fun c => c = b), _, _, by rw [h2], by omega, fun _ => rfl, hsim, rfl, ?_, .inl h2.symm⟩
      refine .sl (fun i => arr.getD (p.s + (o + i)) (.bool false)) h2 (by omega) (fun i y hy => ?_) (fun i y hy => ?_)
      · obtain ⟨u, v', hu, ha, hv⟩ := cell i y hy
        show zf μ h.get w _ _ _ = _
        unfold zf
        rw [if_pos ⟨b, p, _, rfl, hp, hget, ⟨rfl, rfl⟩, rfl, by omega⟩, h5]
        show arr[o + p.s + i]? = _
        rw [Array.getD_eq_getD_getElem?, ha, show o + p.s + i = p.s + (o + i) from by omega, ha]; rfl
      · obtain ⟨u, v', hu, ha, hv⟩ := cell i y hy
        rw [Array.getD_eq_getD_getElem?, ha]
        exact (h4 i y u v' hy (by rw [List.getElem?_drop]; exact hu) hv).mono (muF_le hr _).z
    · have : xs = [] := List.eq_nil_of_length_eq_zero h2
      subst this
      exact ⟨muF μ h.get w (fun c => c = b), _, _, rfl, Nat.le_refl _, fun _ => rfl, hsim, rfl, .nil, .inl rfl⟩
  · cases hb

theorem view_one {v v' : Value} {fz : Nat → Nat → Option Value} (h : DR fz v v') : v'.oneCell' = true := by
  cases h with
  | plain hp => cases v <;> simp_all [plain1, Value.oneCell']
  | _ => rfl
theorem flat_svals (s : ByteArray) (k : Int) : flatN (.int .u8 k) (std.svals s) = std.svals s := by
  show flatN _ (s.data.toList.map fun b => Value.int .u8 b.toNat) = s.data.toList.map fun b => Value.int .u8 b.toNat
  induction s.data.toList with
  | nil => rfl
  | cons b l ih => rw [List.map_cons, flatN_cons, ih]; rfl

/-- What a source is like. -/
theorem srcD_ok {z zz x x' : Value} {xt e : TypeId} {h : Hp} {ys : List Value} (hs : srcD std P z xt x h = some ys) (hr : Rel μ base h.get w) (hx : VR μ x x') :
    ∃ news : Array Value, Src P w e z.cells.size zz xt x' ys.length news ∧ news.size = ys.length * z.cells.size ∧ ∀ (i : Nat) y, (flatN z ys)[i]? = some y → ∃ v', news[i]? = some v' ∧ DR μ.z y v' := by
  unfold srcD at hs
  split at hs
  · rename_i hu
    split at hs
    case h_2 => cases hs
    rename_i s hd
    simp only [Option.some.injEq] at hs; subst hs
    have hx := hx.den
    rw [hd] at hx
    have := hx.inv_string; subst this
    have hfc : ∀ w0 : World, (Builtin.firstCells 1 s.data.toList.length (.string s)).run P w0 = .ok (s.data.map fun b => Value.int .u8 b.toNat) w0 := by
      intro w0
      have hex : s.extract 0 s.data.toList.length = s := by
        apply ByteArray.ext
        rw [ByteArray.data_extract]
        simp
      simp only [Builtin.firstCells, hex]
      rfl
    have hl : (std.svals s).length = s.data.toList.length := List.length_map ..
    refine ⟨s.data.map fun b => Value.int .u8 b.toNat, ⟨.inr ⟨.inl hu, fun _ => by rw [hl]; rfl, by rw [hl]; exact hfc w, by rw [hl]; exact hfc _⟩⟩, ?_, fun i y hy => ?_⟩
    · rw [hl]; simp [Value.cells]
    · rw [flat_svals] at hy
      have hy : (s.data.toList.map fun b => Value.int .u8 b.toNat)[i]? = some y := hy
      refine ⟨y, ?_, ?_⟩
      · rw [← Array.getElem?_toList, Array.toList_map]; exact hy
      · rw [List.getElem?_map] at hy
        cases hb : s.data.toList[i]? with
        | none => rw [hb] at hy; cases hy
        | some b => rw [hb] at hy; simp at hy; subst hy; exact .plain rfl
  · rename_i t hu
    have fin : ∀ {a : Option Addr} {k : Nat}, x' = .slice a ys.length k → ys.length ≤ k → (∀ c o, a = some ⟨c, o, none⟩ → 0 < ys.length → ∃ val : Nat → Value, (∀ i v, (flatN z ys)[i]? = some v → w.cell? ⟨c, o + i, none⟩ = some (val i)) ∧ ∀ i v, (flatN z ys)[i]? = some v → DR μ.z v (val i)) → (0 < ys.length → ∃ c o, a = some ⟨c, o, none⟩) →
        ∃ news : Array Value, Src P w e z.cells.size zz xt x' ys.length news ∧ news.size = ys.length * z.cells.size ∧ ∀ (i : Nat) y, (flatN z ys)[i]? = some y → ∃ v', news[i]? = some v' ∧ DR μ.z y v' := by
      intro a k he hk hval ha
      by_cases h0 : ys.length = 0
      · have : ys = [] := List.eq_nil_of_length_eq_zero h0
        subst this
        refine ⟨#[], ⟨.inr ⟨.inr ⟨t, hu⟩, fun _ => by rw [he]; rfl, ?_, ?_⟩⟩, by simp, fun i y hy => by simp [flatN] at hy⟩
        · rw [he]; cases a with
          | none => exact run_firstCells_none w _ _ _ _
          | some a => exact run_firstCells_some w _ 0 a 0 k [] (by simp) (by simp)
        · rw [he]; cases a with
          | none => exact run_firstCells_none _ _ _ _ _
          | some a => exact run_firstCells_some w.drew _ 0 a 0 k [] (by simp) (by simp)
      · obtain ⟨c, o, rfl⟩ := ha (by omega)
        obtain ⟨val, h1, h2⟩ := hval c o rfl (by omega)
        have hcell : ∀ j v, ((List.range (ys.length * z.cells.size)).map val)[j]? = some v → w.cell? ((⟨c, o, none⟩ : Addr).add j) = some v := by
          intro j v hv
          rw [List.getElem?_map] at hv
          cases hri : (List.range (ys.length * z.cells.size))[j]? with
          | none => rw [hri] at hv; cases hv
          | some j' =>
            obtain ⟨hlt, he'⟩ := List.getElem?_eq_some_iff.1 hri
            simp at he' hlt
            subst he'
            rw [hri] at hv
            simp only [Option.map_some, Option.some.injEq] at hv
            subst hv
            have := h1 j _ (List.getElem?_eq_getElem (by rw [flatN_len]; exact hlt))
            rw [← this]
            congr 1
            unfold Addr.add; split
            · simp_all
            · rfl
        refine ⟨((List.range (ys.length * z.cells.size)).map val).toArray, ⟨.inr ⟨.inr ⟨t, hu⟩, fun _ => by rw [he]; rfl, ?_, ?_⟩⟩, by simp, fun i y hy => ?_⟩
        · rw [he]; exact run_firstCells_some w _ _ _ _ k _ (by simp) hcell
        · rw [he]; exact run_firstCells_some w.drew _ _ _ _ k _ (by simp) (by simpa using hcell)
        · have hlt := (List.getElem?_eq_some_iff.1 hy).1
          rw [flatN_len] at hlt
          exact ⟨val i, by simp [hlt], h2 i y hy⟩
    have deepCase : DR μ.z (dsl z ys) x' → ∃ news : Array Value, Src P w e z.cells.size zz xt x' ys.length news ∧ news.size = ys.length * z.cells.size ∧ ∀ (i : Nat) y, (flatN z ys)[i]? = some y → ∃ v', news[i]? = some v' ∧ DR μ.z y v' := by
      intro hd
      rcases hd.inv with ⟨rfl, a, k, he⟩ | ⟨c, o, k, val, he, hk, h1, h2⟩
      · exact fin he (Nat.zero_le _) (fun _ _ _ h => absurd h (by simp)) (fun h => absurd h (by simp))
      · refine fin he hk (fun c' o' hco _ => ?_) (fun _ => ⟨c, o, rfl⟩)
        simp only [Option.some.injEq, Addr.mk.injEq, and_true] at hco
        obtain ⟨rfl, rfl⟩ := hco
        exact ⟨val, fun i v hv => frozen_cell hr (h1 i v hv), h2⟩
    split at hs
    · rename_i z0 ys' hd
      split at hs
      case isFalse => cases hs
      rename_i hze
      simp only [Option.some.injEq] at hs; subst hs
      have := zeq_eq hze; subst this
      exact deepCase (deep_inv hd hx)
    · split at hs
      · simp only [Option.some.injEq] at hs; subst hs
        rw [hx.eq_of_plain rfl] at deepCase ⊢
        exact deepCase .nil
      · rename_i b o m k _
        split at hs
        case h_2 => cases hs
        rename_i cs ro hget
        obtain ⟨h2, h3, h4⟩ := elems_ok hr hs
        rcases hx.inv_slice with ⟨p, k', hp, rfl, hlk, hk⟩ | ⟨rfl, hk, a', ⟨p, hp⟩, rfl⟩
        · obtain ⟨arr, e, fr, h5, h6, h7, h8⟩ := hr.blk b p _ hp hget
          refine fin (by rw [h2]) (by omega) (fun c' o' hco _ => ?_) (fun _ => ⟨_, _, rfl⟩)
          simp only [Option.some.injEq, Addr.mk.injEq, and_true] at hco
          obtain ⟨rfl, rfl⟩ := hco
          have cell : ∀ (i : Nat) y, (flatN z ys)[i]? = some y → ∃ u v', cs[o + i]? = some u ∧ arr[p.s + (o + i)]? = some v' ∧ VR1 μ u v' := by
            intro i y hy
            have hi := (List.getElem?_eq_some_iff.1 hy).1
            rw [List.length_drop] at h3
            have hu := List.getElem?_eq_getElem (l := cs) (i := o + i) (by omega)
            obtain ⟨v', h9, h10⟩ := h7 _ _ hu
            exact ⟨_, v', hu, h9, h10⟩
          refine ⟨fun i => arr.getD (p.s + (o + i)) (.bool false), fun i y hy => ?_, fun i y hy => ?_⟩
          · obtain ⟨u, v', hu, ha, hv⟩ := cell i y hy
            show w.cell? _ = some (arr.getD (p.s + (o + i)) (.bool false))
            rw [cell_of_row w p.c _ arr e fr h5, Array.getD_eq_getD_getElem?, ha, show o + p.s + i = p.s + (o + i) from by omega, ha]; rfl
          · obtain ⟨u, v', hu, ha, hv⟩ := cell i y hy
            show DR μ.z y (arr.getD (p.s + (o + i)) (.bool false))
            rw [Array.getD_eq_getD_getElem?, ha]
            exact h4 i y u v' hy (by rw [List.getElem?_drop]; exact hu) hv
        · have : ys = [] := List.eq_nil_of_length_eq_zero h2
          subst this
          exact deepCase .nil
      · cases hs
  · cases hs

/-- APPEND. -/
theorem appendD_run {argTypes : Array TypeId} {ty st xt e : TypeId} {args : Array Value} {i : TypeInfo} {z0 z s' x' : Value} {xs ys : List Value} {h h1 : Hp} {news : Array Value} {μ1 : Mu} {bs : Option Addr} {k : Nat}
    (h0 : argTypes[0]? = some st) (h1' : argTypes[1]? = some xt) (ha0 : args[0]? = some s') (ha1 : args[1]? = some x') (hu : P.underlying st = some (.slice e)) (hi : P.info? e = some i) (hiz : i.zero = some z0)
    (hsz : 0 < i.size) (hz0 : z0.cells.size = i.size) (hz : z.cells.size = i.size) (hby : 0 < i.bytes) (hr : Rel μ base h.get w) (hfree : μ h.next = none) (hb : BaseOk μ base w z xs h h1 s' μ1 bs k)
    (src : Src P w e i.size z0 xt x' ys.length news) (hns : news.size = ys.length * i.size) (hnews : ∀ (i : Nat) y, (flatN z ys)[i]? = some y → ∃ v', news[i]? = some v' ∧ DR μ.z y v')
    (hob : (xs ++ ys).length * i.bytes ≤ 140737488355328) :
    ∃ v' w' μ', (Builtin.append_ argTypes ty args).run P w = .ok v' w' ∧ OutG μ base h w (osl z (xs ++ ys) h1.next) (h1.push (.cells [] false)) v' w' μ' := by
  obtain ⟨heq, hlen, hf, hsim, hnx, hdr, hroom⟩ := hb
  subst heq
  rw [List.length_append] at hob
  have hmb : ys.length * i.bytes ≤ 140737488355328 := Nat.le_trans (Nat.mul_le_mul_right _ (Nat.le_add_left _ _)) hob
  have h62 : xs.length + ys.length ≤ 4611686018427387904 := by
    have := Nat.le_mul_of_pos_right (xs.length + ys.length) hby
    omega
  have hμ1 : μ1 h1.next = none := by rw [hf, hnx]; exact hfree
  have hgp : (h1.push (.cells [] false)).get = fun c => if c = h1.next then some (.cells [] false) else h1.get c := get_push_fun _ _
  have hflat : ∀ {j : Nat} {v : Value}, (flatN z (xs ++ ys))[j]? = some v → (j < xs.length * i.size ∧ (flatN z xs)[j]? = some v) ∨ (xs.length * i.size ≤ j ∧ j < (xs.length + ys.length) * i.size ∧ (flatN z ys)[j - xs.length * i.size]? = some v) := by
    intro j v hv
    have hlt := (List.getElem?_eq_some_iff.1 hv).1
    rw [flatN_len, List.length_append, hz] at hlt
    rw [flatN_append, List.getElem?_append, flatN_len, hz] at hv
    split at hv
    · rename_i hj; exact .inl ⟨hj, hv⟩
    · rename_i hj; exact .inr ⟨by omega, hlt, hv⟩
  -- what was there
  have hold : ∃ (ov : Nat → Value), (0 < xs.length → ∃ c o, bs = some ⟨c, o, none⟩ ∧ (∀ j v, (flatN z xs)[j]? = some v → μ1.z c (o + j) = some (ov j))) ∧ ∀ j v, (flatN z xs)[j]? = some v → DR μ1.z v (ov j) := by
    rcases hdr.inv with ⟨hx, a, k', he⟩ | ⟨c, o, k', val, he, hk, h2, h3⟩
    · exact ⟨fun _ => .bool false, fun h => (by rw [hx] at h; simp at h), fun j v hv => by rw [hx] at hv; simp [flatN] at hv⟩
    · simp only [Value.slice.injEq, true_and] at he
      obtain ⟨rfl, rfl⟩ := he
      exact ⟨val, fun _ => ⟨c, o, rfl, h2⟩, h3⟩
  obtain ⟨ov, hov1, hov2⟩ := hold
  by_cases hm : ys.length = 0
  · -- nothing is appended
    have : ys = [] := List.eq_nil_of_length_eq_zero hm
    subst this
    have hnil : news.toList = [] := by
      apply List.eq_nil_of_length_eq_zero
      rw [Array.length_toList, hns]; simp
    obtain ⟨hrun, _⟩ := append_run (ty := ty) h0 h1' ha0 ha1 hu hi hiz hz0 hsz hmb src
    have hrun := hrun (by simpa using hlen)
    have hres : (Builtin.append_ argTypes ty args).run P w = .ok (.slice bs xs.length k) w := by
      rw [hrun]; unfold apRoom
      cases bs with
      | none => rfl
      | some a => rw [hnil]; rfl
    rw [List.append_nil]
    rcases hroom with hk | ⟨b, p, c, o, rfl, hp, hg, rfl, hμe, hpc, hps, hpN⟩
    · refine ⟨_, w, μ1, hres, .zero (.osl hdr rfl (.inl hk)), ⟨hsim.le, ?_, hsim.fr, fun c p x hc hx => ?_, hsim.fz⟩, by simp [hnx], fun b hb => absurd (hf b) hb⟩
      · refine Rel.less hsim.rel fun c p x hc hx => ?_
        rw [hgp] at hx
        simp only at hx
        split at hx
        · rename_i e; subst e; rw [hμ1] at hc; cases hc
        · exact hx
      · rw [hgp] at hx
        simp only at hx
        split at hx
        · rename_i e; subst e; rw [hμ1] at hc; cases hc
        · exact hsim.own c p x hc hx
    · have hμe := hμe.symm
      subst hμe
      obtain ⟨arr, et, fr, hw1, hw2, hw3, hw4⟩ := hr.blk b p _ hp hg
      have hch : Chg w w p.c (.cells arr et fr) := ⟨rfl, rfl, rfl, rfl, fun _ _ => rfl, hw1⟩
      have hbn := Hp.lt_of_get hg
      have hmv := sim_move (q := p) (x' := .cells [] false) hr hp hg rfl (hfree) rfl hch ⟨arr, et, fr, hw1, hw2, fun i v hv => by simp at hv, hw4⟩ rfl (Nat.le_refl _) (fun arr e fr h => ⟨arr, e, fr, h, fun _ _ => rfl⟩)
      refine ⟨_, w, Mu.upd μ h.next p, hres, .zero (.osl hdr rfl (.inr ⟨rfl, p, c, o, rfl, Mu.upd_same _ _ _, hpc, hps, hpN⟩)), ?_, by simp, dom_upd (by simp)⟩
      rw [hgp]
      have hfun : (fun c => if c = (h.put b none).next then some (Blk.cells [] false) else (h.put b none).get c) = (fun c => if c = h.next then some (Blk.cells [] false) else if c = b then none else h.get c) := by
        funext c; rw [Hp.get_put _ _ _ _ hbn]; rfl
      rw [hfun]
      exact hmv.toW
  · by_cases hcap : xs.length + ys.length ≤ k
    · -- in the room that there is
      rcases hroom with hk | ⟨b, p, c, o, rfl, hp, hg, rfl, hμe, hpc, hps, hpN⟩
      · omega
      have hμe := hμe.symm
      subst hμe
      subst hpc
      obtain ⟨hrun, _⟩ := append_run (ty := ty) h0 h1' ha0 ha1 hu hi hiz hz0 hsz hmb src
      have hrun := hrun hcap
      obtain ⟨arr, et, fr, hw1, hw2, hw3, hw4⟩ := hr.blk b p _ hp hg
      obtain ⟨hpb, hpf, hps0⟩ := hw4 rfl
      rw [hz] at hps hpN
      have hmul : (xs.length + ys.length) * i.size ≤ k * i.size := Nat.mul_le_mul_right _ hcap
      rw [Nat.add_mul] at hmul
      have hin : ∀ j, j < news.toList.length → p.s + j < arr.size := by
        intro j hj
        rw [Array.length_toList, hns] at hj
        omega
      have hone : ∀ v ∈ news.toList, v.oneCell' = true := by
        intro v hv
        obtain ⟨j, hj⟩ := List.mem_iff_getElem?.1 hv
        have hlt := (List.getElem?_eq_some_iff.1 hj).1
        rw [Array.length_toList, hns] at hlt
        obtain ⟨y, hy⟩ : ∃ y, (flatN z ys)[j]? = some y := ⟨_, List.getElem?_eq_getElem (by rw [flatN_len, hz]; exact hlt)⟩
        obtain ⟨v', h2, h3⟩ := hnews j y hy
        rw [Array.getElem?_toList, h2] at hj
        simp only [Option.some.injEq] at hj; subst hj
        exact (view_one h3)
      have hst := run_storeCells_cells (P := P) p.c p.s news.toList 0 w (fun j hj => by
          rw [Nat.add_zero, cell_of_row w p.c _ arr et fr hw1, Array.getElem?_eq_getElem (hin j hj)]; rfl)
        (fun j hj => by
          simp only [World.frozen?, hw1, Nat.add_zero]
          have := hpf _ (hin j hj)
          simpa using this) hone
      rw [Nat.add_zero] at hst
      have hch := chg_setCells p.c et fr news.toList p.s w arr hw1
      have hadd : (⟨p.c, o, none⟩ : Addr).add (xs.length * i.size) = ⟨p.c, p.s, none⟩ := by
        unfold Addr.add; split
        · rename_i h0; rw [hps, h0]; rfl
        · rw [hps]
      have hres : (Builtin.append_ argTypes ty args).run P w = .ok (.slice (some ⟨p.c, o, none⟩) (xs.length + ys.length) k) (w.setCells p.c p.s news.toList) := by
        rw [hrun]; unfold apRoom
        simp only [hadd, hst, Result.andThen_ok]
      have hbn := Hp.lt_of_get hg
      have hmv := sim_move (q := ⟨p.c, p.s + ys.length * i.size, p.N⟩) (x' := .cells [] false) hr hp hg rfl (hfree) rfl hch
        ⟨_, et, fr, hch.at_, by simp [length_splice]; exact hw2, fun i v hv => by simp at hv, fun _ => ⟨hpb, by simpa [length_splice] using hpf, fun h => by simp at h⟩⟩ rfl (Nat.le_add_right _ _) (pre_splice hw1 hch.at_ (Nat.le_refl _))
      have hg' : ((h.put b none).push (.cells [] false)).get = (fun c => if c = h.next then some (Blk.cells [] false) else if c = b then none else h.get c) := by
        rw [hgp]; funext c; rw [Hp.get_put _ _ _ _ hbn]; rfl
      have hz2 := muZ_sim (lo := p.s) (hi := p.s + ys.length * i.size) hmv.toW hch.at_ (fun b' p' x' hb' hx' ho' hcc => by
        by_cases e : b' = h.next
        · subst e; rw [Mu.upd_same] at hb'; simp only [Option.some.injEq] at hb'; subst hb'; exact Nat.le_refl _
        · rw [Mu.upd_other e] at hb'
          rw [if_neg e] at hx'
          split at hx'
          · cases hx'
          · rename_i e2
            exact absurd hcc (hr.inj b' b p' p x' _ hb' hp hx' hg e2 ho')) (.inr ⟨b, p, _, hp, hg, rfl, rfl⟩)
      refine ⟨_, _, muZ (Mu.upd μ h.next ⟨p.c, p.s + ys.length * i.size, p.N⟩) p.c p.s (p.s + ys.length * i.size) (spliceL arr.toList p.s news.toList).toArray, hres, ?_, by rw [hg']; exact hz2, by simp, fun b' hb' => dom_upd (h := h) (h' := (h.put b none).push (.cells [] false)) (p := ⟨p.c, p.s + ys.length * i.size, p.N⟩) (by simp) b' hb'⟩
      have hlow : ∀ {j : Nat}, j < ys.length * i.size → (spliceL arr.toList p.s news.toList).toArray[p.s + j]? = news[j]? := by
        intro j hj
        rw [List.getElem?_toArray, splice_get _ _ _ (by rw [Array.length_toList, Array.length_toList, hns]; omega), if_pos (by rw [Array.length_toList, hns]; omega), Nat.add_sub_cancel_left, Array.getElem?_toList]
      refine .zero (.osl (n := xs.length + ys.length) ?_ (List.length_append) (.inr ⟨rfl, ⟨p.c, p.s + ys.length * i.size, p.N⟩, p.c, o, rfl, ?_, rfl, ?_, by rw [hz]; exact hpN⟩))
      · refine .sl (fun j => if j < xs.length * i.size then ov j else news.getD (j - xs.length * i.size) (.bool false)) (List.length_append) hcap (fun j v hv => ?_) (fun j v hv => ?_)
        · show zAdd _ _ _ _ _ _ _ = _
          rcases hflat hv with ⟨hj, hv⟩ | ⟨hj, hj2, hv⟩
          · rw [if_pos hj]
            have hx0 : 0 < xs.length := by
              rcases Nat.eq_zero_or_pos xs.length with h0 | h0
              · rw [h0] at hj; omega
              · exact h0
            obtain ⟨c', o', hco, h2⟩ := hov1 hx0
            simp only [Option.some.injEq, Addr.mk.injEq, and_true] at hco
            obtain ⟨rfl, rfl⟩ := hco
            exact hz2.le.z _ _ _ (h2 j v hv)
          · rw [if_neg (by omega)]
            obtain ⟨v', h3, h4⟩ := hnews _ v hv
            unfold zAdd
            rw [Nat.add_mul] at hj2
            rw [if_pos ⟨rfl, by omega, by omega⟩, show o + j = p.s + (j - xs.length * i.size) from by omega, hlow (by omega), h3, Array.getD_eq_getD_getElem?, h3]; rfl
        · rcases hflat hv with ⟨hj, hv⟩ | ⟨hj, hj2, hv⟩
          · simp only [if_pos hj]
            exact (hov2 j v hv).mono hz2.le.z
          · simp only [if_neg (show ¬ j < xs.length * i.size by omega)]
            obtain ⟨v', h3, h4⟩ := hnews _ v hv
            rw [Array.getD_eq_getD_getElem?, h3]
            exact h4.mono hz2.le.z
      · exact Mu.upd_same μ h.next _
      · show p.s + ys.length * i.size = o + (xs.length + ys.length) * z.cells.size
        rw [hz, hps, Nat.add_mul]; omega
    · -- a new row
      have hcap : k < xs.length + ys.length := by omega
      have holds : ∃ olds : Array Value, (Builtin.firstCells i.size xs.length (.slice bs xs.length k)).run P w.drew = .ok olds w.drew ∧ olds.size = xs.length * i.size ∧ ∀ j v, (flatN z xs)[j]? = some v → olds[j]? = some (ov j) := by
        by_cases hx0 : xs.length = 0
        · refine ⟨#[], ?_, by simp [hx0], fun j v hv => ?_⟩
          · rw [hx0]
            cases bs with
            | none => exact run_firstCells_none _ _ _ _ _
            | some a => exact run_firstCells_some w.drew _ 0 a 0 k [] (by simp) (by simp)
          · have : xs = [] := List.eq_nil_of_length_eq_zero hx0
            rw [this] at hv; simp [flatN] at hv
        · obtain ⟨c, o, rfl, h2⟩ := hov1 (by omega)
          refine ⟨((List.range (xs.length * i.size)).map ov).toArray, run_firstCells_some w.drew _ _ _ _ k _ (by simp) (fun j v hv => ?_), by simp, fun j v hv => ?_⟩
          · rw [List.getElem?_map] at hv
            cases hri : (List.range (xs.length * i.size))[j]? with
            | none => rw [hri] at hv; cases hv
            | some j' =>
              obtain ⟨hlt, he'⟩ := List.getElem?_eq_some_iff.1 hri
              simp at he' hlt
              subst he'
              rw [hri] at hv
              simp only [Option.map_some, Option.some.injEq] at hv
              subst hv
              have h3 := frozen_cell hsim.rel (h2 j _ (List.getElem?_eq_getElem (by rw [flatN_len, hz]; exact hlt)))
              have h4 : w.drew.cell? ⟨c, o + j, none⟩ = some (ov j) := by simpa using h3
              rw [← h4]
              congr 1
              unfold Addr.add; split
              · simp_all
              · rfl
          · have hlt := (List.getElem?_eq_some_iff.1 hv).1
            rw [flatN_len, hz] at hlt
            simp [hlt]
      obtain ⟨olds, hfo, hos, hol⟩ := holds
      obtain ⟨_, hrun⟩ := append_run (ty := ty) h0 h1' ha0 ha1 hu hi hiz hz0 hsz hmb src
      have hrun := hrun hcap h62 hob olds hfo
      have hgr := grow_drew_alloc w (.cells (olds ++ news ++ Builtin.zeroCells z0.cells (grownCap w (xs.length + ys.length) k e - (xs.length + ys.length))) e)
      have hge := grownCap_ge w (xs.length + ys.length) k e
      have hns2 : (olds ++ news ++ Builtin.zeroCells z0.cells (grownCap w (xs.length + ys.length) k e - (xs.length + ys.length))).size = grownCap w (xs.length + ys.length) k e * i.size := by
        rw [Array.size_append, Array.size_append, hos, hns, size_zeroC, hz0, ← Nat.add_mul, ← Nat.add_mul]
        congr 1; omega
      generalize hcp : grownCap w (xs.length + ys.length) k e = cp at hge hns2 hgr hrun
      generalize harr : olds ++ news ++ Builtin.zeroCells z0.cells (cp - (xs.length + ys.length)) = arr at hns2 hgr
      have hnew := sim_new (x := .cells [] false) (p := ⟨w.heap.size, (xs.length + ys.length) * i.size, arr.size⟩) hsim.rel hgr hμ1 rfl
        ⟨arr, e, (0, 0), hgr.new, rfl, fun i v hv => by simp at hv, fun _ => ⟨hsim.rel.size, fun i _ => by simp, fun h => by simp at h⟩⟩
      have htr := hsim.trans hnew.toW
      have hz2 := muZ_sim (lo := 0) (hi := (xs.length + ys.length) * i.size) htr hgr.new (fun b' p' x' hb' hx' ho' hcc => by
        by_cases e : b' = h1.next
        · subst e; rw [Mu.upd_same] at hb'; simp only [Option.some.injEq] at hb'; subst hb'; exact Nat.le_refl _
        · rw [Mu.upd_other e] at hb'
          rw [if_neg e] at hx'
          have := (hsim.rel.blk b' p' x' hb' hx').lt
          omega) (.inl (Nat.le_refl _))
      have hres : (Builtin.append_ argTypes ty args).run P w = .ok (.slice (some ⟨w.heap.size, 0, none⟩) (xs.length + ys.length) cp) (w.drew.alloc (.cells arr e)) := by
        rw [hrun]; unfold apGrow; rw [hcp, harr]
      refine ⟨_, _, muZ (Mu.upd μ1 h1.next ⟨w.heap.size, (xs.length + ys.length) * i.size, arr.size⟩) w.heap.size 0 ((xs.length + ys.length) * i.size) arr, hres, ?_, by rw [hgp]; exact hz2, by simp [hnx], fun b' hb' => ?_⟩
      · have hat : ∀ {j : Nat} {v : Value}, (flatN z (xs ++ ys))[j]? = some v → j < (xs.length + ys.length) * i.size ∧ ∃ v', arr[j]? = some v' ∧ DR (muZ (Mu.upd μ1 h1.next ⟨w.heap.size, (xs.length + ys.length) * i.size, arr.size⟩) w.heap.size 0 ((xs.length + ys.length) * i.size) arr).z v v' := by
          intro j v hv
          have hlt := (List.getElem?_eq_some_iff.1 hv).1
          rw [flatN_len, List.length_append, hz] at hlt
          refine ⟨hlt, ?_⟩
          rcases hflat hv with ⟨hj, hv⟩ | ⟨hj, hj2, hv⟩
          · refine ⟨ov j, ?_, (hov2 j v hv).mono ((Mu.le_trans (Mu.le_upd hμ1) (muZ_le hnew.rel hgr.new)).z)⟩
            rw [← harr, Array.append_assoc, Array.getElem?_append_left (by rw [hos]; exact hj)]
            exact hol j v hv
          · obtain ⟨v', h3, h4⟩ := hnews _ v hv
            refine ⟨v', ?_, h4.mono hz2.le.z⟩
            rw [← harr, Array.append_assoc, Array.getElem?_append_right (by rw [hos]; exact hj), hos, Array.getElem?_append_left (by rw [hns]; rw [Nat.add_mul] at hj2; omega)]
            exact h3
        refine .zero (.osl (n := xs.length + ys.length) ?_ (List.length_append) (.inr ⟨rfl, ⟨w.heap.size, (xs.length + ys.length) * i.size, arr.size⟩, w.heap.size, 0, rfl, ?_, rfl, ?_, ?_⟩))
        · refine .sl (fun j => arr.getD j (.bool false)) (List.length_append) hge (fun j v hv => ?_) (fun j v hv => ?_)
          · obtain ⟨hlt, v', h3, _⟩ := hat hv
            show zAdd _ _ _ _ _ _ _ = _
            unfold zAdd
            rw [if_pos ⟨rfl, Nat.zero_le _, by omega⟩, Nat.zero_add, h3, Array.getD_eq_getD_getElem?, h3]; rfl
          · obtain ⟨hlt, v', h3, h4⟩ := hat hv
            rw [Array.getD_eq_getD_getElem?, h3]
            exact h4
        · exact Mu.upd_same μ1 h1.next _
        · show (xs.length + ys.length) * i.size = 0 + (xs.length + ys.length) * z.cells.size
          rw [hz, Nat.zero_add]
        · show 0 + cp * z.cells.size ≤ arr.size
          rw [hz, hns2, Nat.zero_add]; exact Nat.le_refl _
      · have hb' : Mu.upd μ1 h1.next ⟨w.heap.size, (xs.length + ys.length) * i.size, arr.size⟩ b' ≠ μ b' := hb'
        rw [← hf b'] at hb'
        have := dom_upd (h := h1) (h' := h1.push (.cells [] false)) (by simp) b' hb'
        rw [hnx] at this; exact this

theorem joinD_eq (xs : Option (List Value)) (ys : List Value) : joinD std xs ys = xs.getD [] ++ ys := by cases xs <;> rfl

/-- EACH OPERATION OF THESE. -/
theorem baseD_next {z s : Value} {h h1 : Hp} {xo : Option (List Value)} (hb : baseD z s h = some (xo, h1)) : h1.next = h.next := by
  unfold baseD at hb
  repeat' split at hb
  all_goals first
    | (cases hb; done)
    | (simp only [Option.some.injEq, Prod.mk.injEq] at hb; obtain ⟨_, rfl⟩ := hb; rfl)
theorem baseD_keep {z s s' : Value} {h h1 : Hp} {xo : Option (List Value)} {x : Blk} (hb : baseD z s h = some (xo, h1)) (hs : VR μ s s') : Keeps μ h (h1.push x) := by
  have hn := baseD_next hb
  intro c hc hμ
  rw [Hp.get_push, if_neg (by omega)]
  unfold baseD at hb
  split at hb
  · simp only [Option.some.injEq, Prod.mk.injEq] at hb
    obtain ⟨_, rfl⟩ := hb
    exact .inl rfl
  · split at hb
    · rename_i b _
      split at hb
      case isFalse => cases hb
      split at hb
      case h_2 => cases hb
      rename_i hget
      simp only [Option.some.injEq, Prod.mk.injEq] at hb
      obtain ⟨_, rfl⟩ := hb
      rw [Hp.get_put _ _ _ _ (Hp.lt_of_get hget)]
      split
      · exact .inr rfl
      · exact .inl rfl
    · split at hb
      case isFalse => cases hb
      simp only [Option.some.injEq, Prod.mk.injEq] at hb
      obtain ⟨_, rfl⟩ := hb
      exact .inl rfl
    · cases hb
  · rename_i b o n k
    split at hb
    case isFalse => cases hb
    split at hb
    case h_2 => cases hb
    rename_i cs hget
    split at hb
    case h_2 => cases hb
    simp only [Option.some.injEq, Prod.mk.injEq] at hb
    obtain ⟨_, rfl⟩ := hb
    have hp : ∃ p, μ b = some p := by
      rcases hs.inv_slice with ⟨p, _, hp, _⟩ | ⟨_, _, _, hp, _⟩
      · exact ⟨p, hp⟩
      · exact hp
    obtain ⟨p, hp⟩ := hp
    exact Keeps.put hp (Hp.lt_of_get hget) c hc hμ
  · cases hb
theorem flat_ints (k : IntKind) (n : Int) : ∀ ys : List Value, flatN (.int k n) ys = ys.map fun y => .int k (dint y)
  | [] => rfl
  | y :: l => by rw [flatN_cons, List.map_cons, flat_ints k n l]; rfl
theorem copyD_ok {o : Oper} {s : St} {dt xt : TypeId} {dx xx : Operand} {args : Array Operand} {argTypes : Array TypeId} {alts : List Alt} (ho : o.op = .call { callee := .builtin .copy, args, argTypes })
    (ht : argTypes.toList = [dt, xt]) (ha : args.toList = [dx, xx]) (e : symCD std P dt xt (evA s.tmps dx) (evA s.tmps xx) s.h = some alts) : AltsOk alts fun a => s.h.next ≤ a.h.next ∧ SemE P o s a.v a.h := by
  unfold symCD at e
  split at e
  case h_2 => cases e
  rename_i el t hu hux
  split at e
  case h_2 => cases e
  rename_i k ys hsz has
  split at e
  case h_2 => cases e
  rename_i b o' len cap hd
  split at e
  case h_2 => cases e
  rename_i r1 hb
  split at e
  case h_2 => cases e
  rename_i r3 hl3
  refine alts_one e fun hob => ⟨by show s.h.next ≤ (s.h.put b _).next; simp, ?_⟩
  obtain ⟨hob1, hob2⟩ := hob
  have hob1 : ys.length ≤ len := hob1
  intro μ base w a K Q hr hrel hfree hK
  have hdv := hr dx (by rw [ho]; simp [Op.operands, Call.operands, ha])
  have hxv := hr xx (by rw [ho]; simp [Op.operands, Call.operands, ha])
  have hsrc : srcD std P (.int k 0) xt (evA s.tmps xx) s.h = some ys := by
    unfold srcD
    rw [hux]
    simp only [has]
    rw [if_pos (by cases k <;> rfl)]
  obtain ⟨news, hsr, hns, hnews⟩ := srcD_ok (zz := .int k 0) (e := el) hsrc hrel hxv
  have hns : news.size = ys.length := by rw [hns]; exact Nat.mul_one _
  have hlist : news.toList = ys.map fun y => Value.int k (dint y) := by
    refine List.ext_getElem? fun i => ?_
    by_cases hi : i < ys.length
    · have h1 : (flatN (.int k 0) ys)[i]? = some (.int k (dint ys[i])) := by rw [flat_ints, List.getElem?_map, List.getElem?_eq_getElem hi]; rfl
      obtain ⟨v', h2, h3⟩ := hnews i _ h1
      rw [List.getElem?_map, List.getElem?_eq_getElem hi, Array.getElem?_toList, h2]
      cases h3 with
      | plain _ => rfl
    · rw [List.getElem?_eq_none (by rw [Array.length_toList]; omega), List.getElem?_eq_none (by rw [List.length_map]; omega)]
  rcases hsr.plain with ⟨kk, _, _, h1, _⟩ | ⟨_, hlen, hfc, _⟩
  · rw [hux] at h1; cases h1
  have hint : ∀ kk, P.underlying xt ≠ some (.int kk) := fun kk h => by rw [hux] at h; cases h
  have hargs : (args.map a.eval).toList = [a.eval dx, a.eval xx] := by rw [Array.toList_map, ha]; rfl
  have h0 : argTypes[0]? = some dt := by rw [← Array.getElem?_toList, ht]; rfl
  have ha0 : (args.map a.eval)[0]? = some (a.eval dx) := by rw [← Array.getElem?_toList, hargs]; rfl
  have ha1 : (args.map a.eval)[1]? = some (a.eval xx) := by rw [← Array.getElem?_toList, hargs]; rfl
  have hfc : (Builtin.firstCells 1 ys.length (a.eval xx)).run P w = .ok news w := hfc
  have hdd := hdv.den
  rw [hd] at hdd
  have hcells : (Row.ints k (ys.map dint)).cells = ys.map fun y => Value.int k (dint y) := by
    show (ys.map dint).map (Value.int k) = _
    rw [List.map_map]; rfl
  have hmany := lay_many hl3
  have hob2 : o' + len ≤ r1.cells.length := by rw [← hmany]; exact hob2
  have hspl := lay_spec hl3 (n := ys.length) (by rw [show (std.ints ys) = ys.map dint from rfl, hcells, List.length_map]; exact Nat.le_refl _) (by omega)
  have hspl : spliceL r1.cells o' (ys.map fun y => Value.int k (dint y)) = r3.cells := by
    rw [← hspl, show (std.ints ys) = ys.map dint from rfl, hcells, List.take_of_length_le (by rw [List.length_map]; exact Nat.le_refl _)]
  have hg : s.h.view.get b = some (.cells r1.cells false) := by rw [s.h.get_view, hb]; simp only [Option.map_some, view_row, row_den]
  have fin : ∀ {w' : World}, (Builtin.copy_ argTypes o.type (args.map a.eval)).run P w = .ok (goInt (ys.length : Nat)) w' → Sim μ base s.h.get w μ (s.h.put b (some (.row r3 false))).get w' → (∃ p, μ b = some p) → o.wp P a w K Q := by
    intro w' hrun hsim ⟨p, hp⟩
    unfold Oper.wp
    have hex : (execOp a.eval o).run P w = .ok (.value (goInt (ys.length : Nat))) w' := by
      obtain ⟨dst, op, ty, pos, after, guard⟩ := o
      simp only at ho; subst ho
      simp only [execOp, resolve, invoke, builtin, Sem.run_bind, Sem.run_pure, Result.andThen_ok, hrun]
    rw [hex]
    exact hK _ _ μ (Out.same (.zero (.mark (.plain rfl) rfl)) hsim (by simp) (.put hp (Hp.lt_of_get hb)))
  rcases hdd.inv_slice with ⟨p, k', hp, hdx, hlk, hk⟩ | ⟨hl0, hk, a', ⟨p, hp⟩, hdx⟩
  · obtain ⟨w', h3, h4⟩ := sim_splice (P := P) hrel.ofView hp hg (o := o') (vs := ys.map fun y => Value.int k (dint y)) (by rw [List.length_map]; omega) (All2.refl fun v hv => by
      obtain ⟨y, _, rfl⟩ := List.mem_map.1 hv
      exact .zero (.plain rfl))
    refine fin (w' := w') ?_ (Sim.unview (hv' := s.h.view.put b (some (.cells r3.cells false))) (fun c => ?_) (by rw [get_put_fun (Hp.lt_of_get hg), ← hspl]; exact h4)) ⟨p, hp⟩
    · rw [hdx] at ha0
      have hmin : min ys.length len = ys.length := Nat.min_eq_left hob1
      simp [Builtin.copy_, h0, ha0, ha1, run_underlying hu, hlen, szA_run hsz, hmin, hfc, hlist]
      have h3 : (storeCells ({ block := p.c, off := o' + p.s } : Addr) (ys.map fun y => Value.int k (dint y))).run P w = .ok () w' := h3
      rw [h3]; rfl
    · rw [Hp.get_put _ _ _ _ (Hp.lt_of_get hg), Hp.get_put _ _ _ _ (Hp.lt_of_get hb)]
      split
      · simp only [Option.map_some, view_row, row_den]
      · exact s.h.get_view c
  · have hy : ys = [] := List.eq_nil_of_length_eq_zero (by omega)
    subst hy
    have h31 : r3.cells = r1.cells := hspl.symm
    have hn0 : news = #[] := Array.toList_inj.1 hlist
    refine fin (w' := w) ?_ (Sim.unview (hv' := s.h.view) (fun c => ?_) (Sim.refl hrel.ofView)) ⟨p, hp⟩
    · rw [hdx] at ha0
      subst hn0
      have hfc : (Builtin.firstCells 1 0 (a.eval xx)).run P w = .ok #[] w := hfc
      simp [Builtin.copy_, h0, ha0, ha1, run_underlying hu, hlen, szA_run hsz, hfc, storeCells]
    · rw [Hp.get_put _ _ _ _ (Hp.lt_of_get hb)]
      split
      · rename_i hcb
        subst hcb
        rw [hg]
        simp only [Option.map_some, view_row, row_den, h31]
      · exact s.h.get_view c
theorem stepG_ok {o : Oper} {s : St} {alts : List Alt} (e : stepG std P (evA s.tmps) o s.h = some alts) : AltsOk alts fun a => s.h.next ≤ a.h.next ∧ SemE P o s a.v a.h := by
  unfold stepG at e
  split at e
  case isFalse => cases e
  split at e
  · rename_i args argTypes ho
    split at e
    case h_2 => cases e
    rename_i st xt sx xx ht ha
    unfold symAD at e
    split at e
    case h_2 => cases e
    rename_i el hu
    split at e
    case h_2 => cases e
    rename_i i z0 z hi hz0 hzd
    split at e
    case isFalse => cases e
    rename_i hc
    split at e
    case h_2 => cases e
    rename_i xo h1 ys hb hsrc
    refine alts_one e fun hob => ⟨?_, ?_⟩
    · show s.h.next ≤ (h1.push (.cells [] false)).next
      simp [baseD_next hb]
    · intro μ base w a K Q hr hrel hfree hK
      have hsv := hr sx (by rw [ho]; simp [Op.operands, Call.operands, ha])
      have hxv := hr xx (by rw [ho]; simp [Op.operands, Call.operands, ha])
      obtain ⟨c1, c2, c3, c4⟩ := hc
      obtain ⟨μ1, bs, k, hbo⟩ := baseD_ok hb hrel hsv (by omega)
      obtain ⟨news, hsr, hns, hnews⟩ := srcD_ok (zz := z0) (e := el) hsrc hrel hxv
      rw [c3] at hsr hns
      have hiz : i.zero = some z0 := by
        unfold zeroA at hz0
        simp only [hi] at hz0
        split at hz0
        · rename_i z1 hz1
          split at hz0
          · simp at hz0; subst hz0; exact hz1
          · cases hz0
        · cases hz0
      have hob : (joinD std xo ys).length * i.bytes ≤ 140737488355328 := hob
      rw [joinD_eq] at hob
      have hargs : (args.map a.eval).toList = [a.eval sx, a.eval xx] := by rw [Array.toList_map, ha]; rfl
      have h0 : argTypes[0]? = some st := by rw [← Array.getElem?_toList, ht]; rfl
      have h1' : argTypes[1]? = some xt := by rw [← Array.getElem?_toList, ht]; rfl
      have ha0 : (args.map a.eval)[0]? = some (a.eval sx) := by rw [← Array.getElem?_toList, hargs]; rfl
      have ha1 : (args.map a.eval)[1]? = some (a.eval xx) := by rw [← Array.getElem?_toList, hargs]; rfl
      obtain ⟨v', w', μ', hrun, hout⟩ := appendD_run (ty := o.type) h0 h1' ha0 ha1 hu hi hiz c1 c2 c3 c4 hrel (hfree _ (Nat.le_refl _) (by simp [baseD_next hb])) hbo hsr hns hnews hob
      rw [← joinD_eq] at hout
      unfold Oper.wp
      have hex : (execOp a.eval o).run P w = .ok (.value v') w' := by
        obtain ⟨dst, op, ty, pos, after, guard⟩ := o
        simp only at ho; subst ho
        simp only [execOp, resolve, invoke, builtin, Sem.run_bind, Sem.run_pure, Result.andThen_ok, hrun]
      rw [hex]
      exact hK v' w' μ' (hout.out (baseD_keep hb hsv))
  · rename_i args argTypes ho
    split at e
    case h_2 => cases e
    rename_i dt xt dx xx ht ha
    exact copyD_ok ho ht ha e
  · rename_i src dst x ho
    split at e
    case h_2 => cases e
    rename_i el str hs hd hx
    split at e
    case h_2 => cases e
    rename_i he
    refine alts_pure e ⟨Nat.le_refl _, ?_⟩
    intro μ base w a K Q hr hrel hfree hK
    have hxv := (hr x (by rw [ho]; simp [Op.operands])).den
    rw [hx] at hxv
    have hxv := hxv.inv_string
    have hrun := Lib.run_convert_string_bytes (P := P) w src dst el str hs hd he
    have hgr := grow_bytes w el str
    have hge := grownCap_ge w str.size 0 el
    -- the new block stands for none
    have hsim : SimW μ base s.h.get w μ s.h.get (Lib.bytesWorld w el str) := by
      refine ⟨Mu.le_refl μ, ⟨Nat.le_trans hrel.size (by rw [hgr.size]; omega), fun b p y hb hy => (hrel.blk b p y hb hy).keep (Mu.le_refl μ) (hgr.old _ (hrel.blk b p y hb hy).lt), hrel.inj, fun c i v hc => ⟨?_, (hrel.frz c i v hc).2⟩⟩,
        ⟨hgr.os, hgr.tape, hgr.output, by rw [hgr.size]; omega, fun c hc _ => hgr.old c hc⟩, fun b p y hb hy => .inr ⟨b, p, y, hb, hy, id, rfl⟩, fun _ _ _ h => .inl h⟩
      obtain ⟨arr, e, fr, h1, h2⟩ := (hrel.frz c i v hc).1
      exact ⟨arr, e, fr, (hgr.old c (Array.getElem?_eq_some_iff.1 h1).1).trans h1, h2⟩
    have hz2 := muZ_sim (lo := 0) (hi := str.size) hsim hgr.new (fun b p y hb hy _ hcc => by
      have := (hrel.blk b p y hb hy).lt; omega) (.inl (Nat.le_refl _))
    have hsz : (std.svals str).length = str.size := List.length_map ..
    unfold Oper.wp
    have hex : (execOp a.eval o).run P w = .ok (.value (.slice (some ⟨w.heap.size, 0, none⟩) str.size (grownCap w str.size 0 el))) (Lib.bytesWorld w el str) := by
      obtain ⟨dst', op, ty, pos, after, guard⟩ := o
      simp only at ho; subst ho
      simp only [execOp, Sem.run_bind, hxv, hrun, Result.andThen_ok, Sem.run_pure]
    rw [hex]
    refine hK _ _ (muZ μ w.heap.size 0 str.size (Lib.bytesCells w el str)) (OutG.out ⟨.zero (.deep ?_), hz2, Nat.le_refl _, fun b hb => absurd rfl hb⟩ (.refl _ _))
    refine .sl (fun j => (std.svals str).getD j (.bool false)) hsz hge (fun j v hv => ?_) (fun j v hv => ?_)
    · rw [flat_svals] at hv
      have hlt := (List.getElem?_eq_some_iff.1 hv).1
      rw [hsz] at hlt
      show zAdd _ _ _ _ _ _ _ = _
      unfold zAdd
      rw [if_pos ⟨rfl, Nat.zero_le _, by omega⟩, Nat.zero_add, List.getD_eq_getElem?_getD, hv]
      have hv : (str.data.toList.map fun b => Value.int .u8 b.toNat)[j]? = some v := hv
      rw [List.getElem?_map, Array.getElem?_toList] at hv
      unfold Lib.bytesCells
      rw [Array.getElem?_append, if_pos (by simpa using hlt), Array.getElem?_map]
      exact hv
    · rw [flat_svals] at hv
      rw [List.getD_eq_getElem?_getD, hv]
      have hv : (str.data.toList.map fun b => Value.int .u8 b.toNat)[j]? = some v := hv
      rw [List.getElem?_map] at hv
      cases hb : str.data.toList[j]? with
      | none => rw [hb] at hv; cases hv
      | some b => rw [hb] at hv; simp at hv; subst hv; exact .plain rfl
  · cases e

theorem symDN_ok {ρ : Operand → Value} {o : Oper} {x : Blk} {f : Nat → Value} (e : symDN P ρ o = some (x, f)) : kindOf P o.op = .N ∧ SemN P ρ o x f := by
  unfold symDN at e
  split at e
  case h_2 => cases e
  rename_i t len parts ho
  split at e
  case h_2 => cases e
  rename_i el hu
  split at e
  case h_2 => cases e
  rename_i z cs ro f0 hz hst
  split at e
  case h_2 => cases e
  rename_i xs hxs
  split at e
  case isFalse => cases e
  rename_i hlu
  simp only [Option.some.injEq, Prod.mk.injEq] at e
  obtain ⟨rfl, rfl⟩ := e
  have hk : kindOf P o.op = .N := by rw [ho]; rfl
  have hf0 : ro = false ∧ f0 = fun b => .slice (some ⟨b, 0, none⟩) len len := by
    unfold stepN at hst
    rw [ho] at hst
    simp only [hu] at hst
    repeat' split at hst
    all_goals first
      | (cases hst; done)
      | (simp only [Option.some.injEq, Prod.mk.injEq, Blk.cells.injEq] at hst; obtain ⟨⟨_, rfl⟩, rfl⟩ := hst; exact ⟨rfl, rfl⟩)
  obtain ⟨rfl, rfl⟩ := hf0
  refine ⟨hk, fun {μ base w ρ' g} hr hrel {b} hb => ?_⟩
  obtain ⟨v', w', p, h1, h2, h3⟩ := simN hk hst hr hrel hb
  have hgb : (fun c => if c = b then some (Blk.cells cs false) else g c) b = some (.cells cs false) := by simp
  have hub : (Mu.upd μ b p) b = some p := Mu.upd_same _ _ _
  obtain ⟨arr, et, fr, a1, a2, a3, a4⟩ := h3.rel.blk b p _ hub hgb
  -- it is a new block
  have hnew : w.heap.size ≤ p.c := by
    rcases h3.own b p _ hub hgb with h | ⟨b0, p0, x0, k1, k2, k3, k4⟩
    · exact h
    · exfalso
      have hne : b ≠ b0 := fun e => by subst e; rw [hb] at k1; cases k1
      refine h3.rel.inj b b0 p p0 _ x0 hub (by rw [Mu.upd_other (fun e : b0 = b => hne e.symm)]; exact k1) hgb (by simp only [if_neg (fun e : b0 = b => hne e.symm)]; exact k2) hne rfl k4.symm
  have hD : ∀ {z v v' xs}, deepV H0 (fun _ => false) 6 z v = some xs → VR1 (Mu.upd μ b p) v v' → DR μ.z (dsl z xs) v' := by
    intro z v v' xs hd hv
    have hr0 : Rel (Mu.upd μ b p) base H0.get w' := by
      have hn : ∀ c, H0.get c = none := fun c => by unfold Hp.get H0; simp
      exact h3.rel.less fun c q y _ hy => by rw [hn] at hy; cases hy
    have := deepV_ok (S := fun _ => False) (ok := fun _ => false) (fun b hb => by cases hb) hr0 6 hd hv
    have hz : zf (Mu.upd μ b p) H0.get w' (fun _ => False) = μ.z := by
      funext c i
      unfold zf
      rw [if_neg (by rintro ⟨_, _, _, h, _⟩; exact h)]; rfl
    rwa [hz] at this
  obtain ⟨e1, e2, e3⟩ := rawElems_ok (fz := μ.z) (fun {z v v' xs} => hD) hxs
  have hle : ∀ c i a, μ.z c i = some a → zAdd μ.z p.c p.s (p.s + cs.length) arr c i = some a := fun c i a h => (muZ_le h3.rel a1).z c i a h
  refine ⟨v', w', p, zAdd μ.z p.c p.s (p.s + cs.length) arr, h1, ?_, ?_⟩
  · rcases h2.inv_slice with ⟨p', k', hp', rfl, hlk, hcap⟩ | ⟨rfl, _, a', _, rfl⟩
    · rw [hub] at hp'
      simp only [Option.some.injEq] at hp'; subst hp'
      have hkk : k' = len := by
        rcases hcap with ⟨h5, h6⟩ | ⟨h5, _⟩
        · omega
        · exact h5.symm
      subst hkk
      refine .zero (.osl ?_ e1 (.inl rfl))
      have cell : ∀ (i : Nat) y, (flatN z xs)[i]? = some y → ∃ u v', i < cs.length ∧ cs[i]? = some u ∧ arr[p.s + i]? = some v' ∧ VR1 (Mu.upd μ b p) u v' := by
        intro i y hy
        have hi := (List.getElem?_eq_some_iff.1 hy).1
        have hu := List.getElem?_eq_getElem (l := cs) (i := i) (by omega)
        obtain ⟨v', h9, h10⟩ := a3 _ _ hu
        exact ⟨_, v', by omega, hu, h9, h10⟩
      refine .sl (fun i => arr.getD (p.s + i) (.bool false)) e1 (Nat.le_refl _) (fun i y hy => ?_) (fun i y hy => ?_)
      · obtain ⟨u, v', hi, hu, ha, hv⟩ := cell i y hy
        show zAdd _ _ _ _ _ _ _ = _
        unfold zAdd
        rw [if_pos ⟨rfl, by omega, by omega⟩, show 0 + p.s + i = p.s + i from by omega, ha, Array.getD_eq_getD_getElem?, ha]; rfl
      · obtain ⟨u, v', hi, hu, ha, hv⟩ := cell i y hy
        rw [Array.getD_eq_getD_getElem?, ha]
        exact (e3 i y u v' hy hu hv).mono hle
    · have : xs = [] := List.eq_nil_of_length_eq_zero e1
      subst this
      exact .zero (.osl .nil rfl (.inl rfl))
  · -- the block is one that nobody looks at
    refine ⟨⟨fun c q hc => ?_, hle⟩, ⟨h3.rel.size, fun c q y hc hy => ?_, fun c c' q q' y y' hc hc' hy hy' hne ho' => ?_, fun c i a hc => ⟨?_, fun c' q y hc' hy ho' hcc => ?_⟩⟩, h3.fr, fun c q y hc hy => ?_, fun c i a hc => ?_⟩
    · exact h3.le.f c q hc
    · by_cases e : c = b
      · subst e
        simp only [if_true, Option.some.injEq] at hy; subst hy
        have hc : (Mu.upd μ c p) c = some q := hc
        rw [hub] at hc
        simp only [Option.some.injEq] at hc; subst hc
        exact ⟨arr, et, fr, a1, a2, fun i v hv => by simp at hv, fun h => by cases h⟩
      · simp only [if_neg e] at hy
        exact (h3.rel.blk c q y hc (by simp only [if_neg e]; exact hy)).keep ⟨fun _ _ h => h, hle⟩ rfl
    · have e : c ≠ b := fun e => by subst e; simp only [if_true, Option.some.injEq] at hy; subst hy; cases ho'
      simp only [if_neg e] at hy
      by_cases e' : c' = b
      · subst e'
        exact h3.rel.inj c c' q q' y _ hc hc' (by simp only [if_neg e]; exact hy) hgb hne ho'
      · simp only [if_neg e'] at hy'
        exact h3.rel.inj c c' q q' y y' hc hc' (by simp only [if_neg e]; exact hy) (by simp only [if_neg e']; exact hy') hne ho'
    · have hc : zAdd μ.z p.c p.s (p.s + cs.length) arr c i = some a := hc
      unfold zAdd at hc
      split at hc
      · rename_i hcnd
        rw [hcnd.1]
        exact ⟨arr, et, fr, a1, hc⟩
      · exact (h3.rel.frz c i a hc).1
    · have e : c' ≠ b := fun e => by subst e; simp only [if_true, Option.some.injEq] at hy; subst hy; cases ho'
      simp only [if_neg e] at hy
      have hy' : (fun c => if c = b then some (Blk.cells cs false) else g c) c' = some y := by simp only [if_neg e]; exact hy
      have hc : zAdd μ.z p.c p.s (p.s + cs.length) arr c i = some a := hc
      unfold zAdd at hc
      split at hc
      · rename_i hcnd
        exact absurd (hcc.trans hcnd.1) (h3.rel.inj c' b q p y _ hc' hub hy' hgb e ho')
      · exact (h3.rel.frz c i a hc).2 c' q y hc' hy' ho' hcc
    · by_cases e : c = b
      · subst e
        have hc : (Mu.upd μ c p) c = some q := hc
        rw [hub] at hc
        simp only [Option.some.injEq] at hc; subst hc
        exact .inl hnew
      · simp only [if_neg e] at hy
        exact h3.own c q y hc (by simp only [if_neg e]; exact hy)
    · have hc : zAdd μ.z p.c p.s (p.s + cs.length) arr c i = some a := hc
      unfold zAdd at hc
      split at hc
      · rename_i hcnd
        rw [hcnd.1]
        exact .inr (.inl hnew)
      · exact .inl hc
end
end Go.Abs
end
