/-
  UNKNOWN VALUES: rows of unknown length seen as rows of cells; reading them.
-/
import Derived.Test.YtolkoacllaaceaaAbs31
namespace Go.Abs
open Go

/-- Cells without marks. -/
def Blk.view : Blk → Blk
  | .cells cs ro => .cells (cs.map den) ro
  | .row r ro => .cells (r.cells.map den) ro
  | x => x
def Tr.view : Tr → Tr
  | .leaf => .leaf
  | .node l v r => .node l.view (v.map Blk.view) r.view
def Hp.view (h : Hp) : Hp := ⟨h.next, h.tab.view⟩

theorem Tr.get_view : ∀ (t : Tr) (i : Nat), t.view.get i = (t.get i).map Blk.view
  | .leaf, i => rfl
  | .node l v r, i => by
    rw [Tr.get_eq, Tr.get_eq (.node l v r)]
    split
    · rfl
    · split
      · exact Tr.get_view l _
      · exact Tr.get_view r _
theorem Hp.get_view (h : Hp) (b : Nat) : h.view.get b = (h.get b).map Blk.view := by
  unfold Hp.get Hp.view
  simp only
  split
  · exact Tr.get_view _ _
  · rfl

theorem pairs_cons (x : ByteArray × ByteArray) (xs : List (ByteArray × ByteArray)) : (Row.pairs (x :: xs)).cells = .string x.1 :: .string x.2 :: (Row.pairs xs).cells := rfl
theorem pairs_nil : (Row.pairs []).cells = [] := rfl
theorem view_row (r : Row) (ro : Bool) : (Blk.row r ro).view = .cells (r.cells.map den) ro := rfl
theorem view_cells (cs : List Value) (ro : Bool) : (Blk.cells cs ro).view = .cells (cs.map den) ro := rfl

theorem den_plain {v : Value} (h : plain1 v = true) : den v = v := by
  unfold den
  split
  · rename_i first cap
    simp only [plain1, Bool.and_eq_true, Array.isEmpty_iff] at h
    obtain ⟨rfl, rfl⟩ := h
    rfl
  · rfl
theorem den_norm1 (z x : Value) : den (norm1 z x) = norm1 z x := by
  unfold norm1
  split <;> first | rfl | skip
  split
  · rename_i h; exact den_plain h
  · rfl
theorem den_cellsN (z x : Value) : (cellsN z x).map den = cellsN z x := by
  unfold cellsN
  split
  · rw [List.map_map]
    apply List.map_congr_left
    intro p _
    exact den_norm1 _ _
  · rw [List.map_cons, List.map_nil, den_norm1]
theorem den_flatN (z : Value) : ∀ xs : List Value, (flatN z xs).map den = flatN z xs
  | [] => rfl
  | x :: xs => by
    show ((cellsN z x) ++ flatN z xs).map den = cellsN z x ++ flatN z xs
    rw [List.map_append, den_cellsN, den_flatN z xs]
theorem row_den (r : Row) : r.cells.map den = r.cells := by
  have h1 : ∀ (k : IntKind) (xs : List Int), (xs.map (Value.int k)).map den = xs.map (Value.int k) := by
    intro k xs; rw [List.map_map]; congr 1
  cases r with
  | ints k xs => exact h1 k xs
  | bools xs => unfold Row.cells; rw [List.map_map]; congr 1
  | strs xs => unfold Row.cells; rw [List.map_map]; congr 1
  | pairs xs =>
    induction xs with
    | nil => rfl
    | cons x xs ih => rw [pairs_cons, List.map_cons, List.map_cons, ih]; rfl
  | vals z xs => exact den_flatN z xs

section
variable {P : Program} {μ : Mu} {base : Nat} {w : World}

theorem owns_view (x : Blk) : ownB x.view = ownB x := by cases x <;> rfl

theorem cells_view {p : Pl} {cs : List Value} {arr : Array Value} :
    (∀ i v, (cs.map den)[i]? = some v → ∃ v', arr[p.s + i]? = some v' ∧ VR1 μ v v') ↔ (∀ i v, cs[i]? = some v → ∃ v', arr[p.s + i]? = some v' ∧ VR1 μ v v') := by
  constructor
  · intro h i v hv
    obtain ⟨v', h1, h2⟩ := h i (den v) (by rw [List.getElem?_map, hv]; rfl)
    exact ⟨v', h1, VR1.den_iff.1 h2⟩
  · intro h i v hv
    rw [List.getElem?_map] at hv
    cases e : cs[i]? with
    | none => rw [e] at hv; cases hv
    | some u =>
      rw [e] at hv; simp at hv; subst hv
      obtain ⟨v', h1, h2⟩ := h i u e
      exact ⟨v', h1, VR1.den_iff.2 h2⟩

theorem BR_view {p : Pl} (x : Blk) : BR μ base w p x.view ↔ BR μ base w p x := by
  cases x with
  | map es ck => exact Iff.rfl
  | cells cs ro =>
    show BR μ base w p (.cells (cs.map den) ro) ↔ _
    unfold BR
    simp only [cells_view, List.length_map]
  | row r ro =>
    show BR μ base w p (.cells (r.cells.map den) ro) ↔ _
    unfold BR
    simp only [cells_view, List.length_map]

theorem map_view {o : Option Blk} {y : Blk} (h : o.map Blk.view = some y) : ∃ x, o = some x ∧ y = x.view := by
  cases o with
  | none => cases h
  | some x => simp at h; exact ⟨x, rfl, h.symm⟩

theorem Rel.view {h h' : Hp} (hv : ∀ b, h'.get b = (h.get b).map Blk.view) : Rel μ base h'.get w ↔ Rel μ base h.get w := by
  constructor
  · intro r
    refine ⟨r.size, fun b p x hb hx => (BR_view x).1 (r.blk b p _ hb (by rw [hv, hx]; rfl)), fun b b' p p' x x' h1 h2 h3 h4 h5 h6 => ?_, fun c i a hc => ⟨(r.frz c i a hc).1, fun b p x hb hx ho => (r.frz c i a hc).2 b p x.view hb (by rw [hv, hx]; rfl) (by rw [owns_view]; exact ho)⟩⟩
    exact r.inj b b' p p' x.view x'.view h1 h2 (by rw [hv, h3]; rfl) (by rw [hv, h4]; rfl) h5 (by rw [owns_view]; exact h6)
  · intro r
    refine ⟨r.size, fun b p y hb hy => ?_, fun b b' p p' y y' h1 h2 h3 h4 h5 h6 => ?_, fun c i a hc => ⟨(r.frz c i a hc).1, fun b p y hb hy ho => ?_⟩⟩
    · rw [hv] at hy
      obtain ⟨x, hx, rfl⟩ := map_view hy
      exact (BR_view x).2 (r.blk b p x hb hx)
    · rw [hv] at h3 h4
      obtain ⟨x, hx, rfl⟩ := map_view h3
      obtain ⟨x', hx', rfl⟩ := map_view h4
      exact r.inj b b' p p' x x' h1 h2 hx hx' h5 (by rw [← owns_view]; exact h6)
    · rw [hv] at hy
      obtain ⟨x, hx, rfl⟩ := map_view hy
      exact (r.frz c i a hc).2 b p x hb hx (by rw [← owns_view]; exact ho)
theorem Rel.ofView {h : Hp} (r : Rel μ base h.get w) : Rel μ base h.view.get w := (Rel.view h.get_view).2 r

/-- What holds of the heaps without marks holds of the heaps. -/
theorem Sim.unview {μ' : Mu} {h hv' h' : Hp} {w' : World} (hg : ∀ b, hv'.get b = (h'.get b).map Blk.view) (s : Sim μ base h.view.get w μ' hv'.get w') : Sim μ base h.get w μ' h'.get w' := by
  refine ⟨s.le, (Rel.view hg).1 s.rel, ⟨s.fr.os, s.fr.tape, s.fr.output, s.fr.size, fun c hc hno => ?_⟩, fun b p x hp hx => ?_, fun c i a hc => ?_⟩
  · refine s.fr.block c hc fun b p y h1 h2 h3 => ?_
    rw [h.get_view] at h2
    obtain ⟨x, hx, rfl⟩ := map_view h2
    exact hno b p x h1 hx (by rw [← owns_view]; exact h3)
  · rcases s.own b p x.view hp (by rw [hg, hx]; rfl) with h1 | ⟨b0, p0, y0, h1, h2, h3, h4⟩
    · exact .inl h1
    · rw [h.get_view] at h2
      obtain ⟨x0, hx0, rfl⟩ := map_view h2
      exact .inr ⟨b0, p0, x0, h1, hx0, fun ho => by rw [← owns_view]; exact h3 (by rw [owns_view]; exact ho), h4⟩
  · rcases s.fz c i a hc with h1 | h1 | ⟨b0, p0, y0, h1, h2, ho, h3⟩
    · exact .inl h1
    · exact .inr (.inl h1)
    · rw [h.get_view] at h2
      obtain ⟨x0, hx0, rfl⟩ := map_view h2
      exact .inr (.inr ⟨b0, p0, x0, h1, hx0, by rw [← owns_view]; exact ho, h3⟩)

/-- Aggregates without marks. -/
def denD (v : Value) : Value :=
  match v with
  | .agg cs => .agg (cs.toList.map den).toArray
  | v => den v
theorem VR.denD {v v' : Value} (h : VR μ v v') : VR μ (Abs.denD v) v' := by
  unfold Abs.denD
  split
  · rename_i cs
    obtain ⟨ys, rfl, hys⟩ := h.inv_agg
    refine .agg ?_
    simp only
    refine ⟨by simp [hys.1], fun i a ha => ?_⟩
    rw [List.getElem?_map] at ha
    cases e : cs.toList[i]? with
    | none => rw [e] at ha; cases ha
    | some u =>
      rw [e] at ha; simp at ha; subst ha
      obtain ⟨b, hb, r⟩ := hys.2 i u e
      exact ⟨b, hb, VR1.den_iff.2 r⟩
  · exact h.den
theorem OpR.denD {ρ ρ' : Operand → Value} {xs : List Operand} (h : OpR μ ρ ρ' xs) : OpR μ (fun x => Abs.denD (ρ x)) ρ' xs := fun x hx => (h x hx).denD

theorem semR_of {ρ : Operand → Value} {o : Oper} {h : Hp} {v raw : Value} (hk : kindOf P o.op = .R) (hs : stepR P (fun x => den (ρ x)) o h.view = some raw) (hm : ∀ {μ : Mu} {v'}, VR μ raw v' → VR μ v v') : SemR P ρ o h v := by
  intro μ base w ρ' hr hrel
  obtain ⟨v', h1, h2⟩ := simR hk hs hr.den hrel.ofView
  exact ⟨v', h1, hm h2⟩

noncomputable section
variable (S : Sy)

/-- Cells that are all of a kind, as a row; like: of that row's kind. -/
def intsOf (k : IntKind) : List Value → Option (List Int)
  | [] => some []
  | v :: l => match den v with
    | .int k' n => if k = k' then (intsOf k l).map (n :: ·) else none
    | _ => none
def strsOf : List Value → Option (List ByteArray)
  | [] => some []
  | v :: l => match den v with
    | .string s => (strsOf l).map (s :: ·)
    | _ => none
def boolsOf : List Value → Option (List Bool)
  | [] => some []
  | v :: l => match v with
    | .bool s => (boolsOf l).map (s :: ·)
    | _ => none
def pairsOf : List Value → Option (List (ByteArray × ByteArray))
  | [] => some []
  | a :: b :: l => match den a, den b with
    | .string s, .string t => (pairsOf l).map ((s, t) :: ·)
    | _, _ => none
  | _ => none
def rowLike (r : Row) (l : List Value) : Option Row :=
  match r with
  | .ints k _ => (intsOf k l).map (.ints k)
  | .bools _ => (boolsOf l).map .bools
  | .strs _ => (strsOf l).map .strs
  | .pairs _ => (pairsOf l).map .pairs
  | .vals _ _ => none
def rowOf (sz : Nat) (l : List Value) : Option Row :=
  match l with
  | [] => none
  | v :: _ => match den v with
    | .int k _ => rowLike (.ints k []) l
    | .bool _ => rowLike (.bools []) l
    | .string _ => if sz = 2 then rowLike (.pairs []) l else rowLike (.strs []) l
    | _ => none

def Blk.asRow (sz : Nat) : Blk → Option Row
  | .row r _ => some r
  | .cells cs _ => rowOf sz cs
  | _ => none

/-- A row of bytes; one of none. -/
def Blk.bytesRow (x : Blk) : Option (List Int) :=
  match x with
  | .cells [] _ => some []
  | x => match x.asRow 1 with
    | some (.ints .u8 xs) => some xs
    | _ => none
def lastBool (h : Hp) (ob : Prop) (b : Bool) : Option (List Alt) := some [⟨some (b = true), some ob, .bool true, h⟩, ⟨some (b = false), some ob, .bool false, h⟩]

/-- A read from a row, at a place that is not known. -/
def symLoad (P : Program) (t : TypeId) (a : Value) (h : Hp) : Option (List Alt) :=
  match den a with
  | .pointer (some ⟨b, o, none⟩) => match P.underlying t, szA P t, h.get b with
    | some d, some n, some x => match x.asRow n with
      | some r =>
        if isAggD d then match r with
          | .pairs xs => if n = 2 then one h (S.neq (S.nmod o 2) 0 ∧ S.nlt (S.ndiv o 2) (S.len xs))
              (.agg #[mk (.string (S.fst (S.get noPair xs (S.ndiv o 2)))), mk (.string (S.snd (S.get noPair xs (S.ndiv o 2))))]) else none
          | .ints k xs => if n ≤ 256 then one h (S.nle (S.nadd o n) (S.len xs)) (.agg ((List.range n).map fun i => mk (.int k (S.get 0 xs (S.nadd o i)))).toArray) else none
          | _ => none
        else match r with
          | .ints k xs => one h (S.nlt o (S.len xs)) (mk (.int k (S.get 0 xs o)))
          | .bools xs => lastBool h (S.nlt o (S.len xs)) (S.get false xs o)
          | .strs xs => one h (S.nlt o (S.len xs)) (mk (.string (S.get (⟨#[]⟩ : ByteArray) xs o)))
          | .pairs xs => one h (S.nlt o (S.nmul (S.len xs) 2)) (mk (.string (S.half xs o)))
          | .vals _ _ => none
      | none => none
    | _, _, _ => none
  | _ => none

/-- A part of a row: what it asks, the part. -/
def Row.sub (r : Row) (o n : Nat) : Prop × Row :=
  match r with
  | .ints k xs => (S.nle (S.nadd o n) (S.len xs), .ints k (S.take n (S.drop o xs)))
  | .bools xs => (S.nle (S.nadd o n) (S.len xs), .bools (S.take n (S.drop o xs)))
  | .strs xs => (S.nle (S.nadd o n) (S.len xs), .strs (S.take n (S.drop o xs)))
  | .pairs xs => (S.neq (S.nmod o 2) 0 ∧ S.nle (S.nadd (S.ndiv o 2) n) (S.len xs), .pairs (S.take n (S.drop (S.ndiv o 2) xs)))
  | .vals z xs => (S.nlt 0 0, .vals z xs)
def Row.esz : Row → Nat
  | .pairs _ => 2
  | _ => 1

def symR (P : Program) (ρ : Operand → Value) (o : Oper) (h : Hp) : Option (List Alt) :=
  match o.op with
  | .load t a => symLoad S P t (ρ a) h
  | .convert src dst x => match P.underlying src, P.underlying dst with
    | some (.slice e), some .string => match P.underlying e, den (ρ x) with
      | some (.int .u8), .slice (some ⟨b, o, none⟩) n _ => match h.get b with
        | some x => match x.bytesRow with
          | some xs => one h (S.nle (S.nadd o n) (S.len xs)) (mk (.string (S.sof (S.take n (S.drop o xs)))))
          | _ => none
        | none => none
      | _, _ => none
    | _, _ => none
  | _ => none
end

theorem intsOf_spec {k : IntKind} : ∀ {l : List Value} {xs : List Int}, intsOf k l = some xs → l.map den = xs.map (.int k)
  | [], xs, h => by simp only [intsOf, Option.some.injEq] at h; subst h; rfl
  | v :: l, xs, h => by
    unfold intsOf at h
    split at h
    · rename_i k' n hv
      split at h
      · rename_i hk
        subst hk
        cases e : intsOf k l with
        | none => simp [e] at h
        | some ys => simp [e] at h; subst h; rw [List.map_cons, intsOf_spec e, hv]; rfl
      · cases h
    · cases h
theorem strsOf_spec : ∀ {l : List Value} {xs : List ByteArray}, strsOf l = some xs → l.map den = xs.map .string
  | [], xs, h => by simp only [strsOf, Option.some.injEq] at h; subst h; rfl
  | v :: l, xs, h => by
    unfold strsOf at h
    split at h
    · rename_i s hv
      cases e : strsOf l with
      | none => simp [e] at h
      | some ys => simp [e] at h; subst h; rw [List.map_cons, strsOf_spec e, hv]; rfl
    · cases h
theorem boolsOf_spec : ∀ {l : List Value} {xs : List Bool}, boolsOf l = some xs → l.map den = xs.map .bool
  | [], xs, h => by simp only [boolsOf, Option.some.injEq] at h; subst h; rfl
  | v :: l, xs, h => by
    unfold boolsOf at h
    split at h
    · cases e : boolsOf l with
      | none => simp [e] at h
      | some ys => simp [e] at h; subst h; rw [List.map_cons, boolsOf_spec e]; rfl
    · cases h
theorem pairsOf_spec : ∀ {l : List Value} {xs : List (ByteArray × ByteArray)}, pairsOf l = some xs → l.map den = (Row.pairs xs).cells
  | [], xs, h => by simp only [pairsOf, Option.some.injEq] at h; subst h; rfl
  | [v], xs, h => by simp [pairsOf] at h
  | a :: b :: l, xs, h => by
    unfold pairsOf at h
    split at h
    · rename_i s t ha hb
      cases e : pairsOf l with
      | none => simp [e] at h
      | some ys =>
        simp [e] at h; subst h
        rw [List.map_cons, List.map_cons, pairsOf_spec e, ha, hb]; rfl
    · cases h
theorem rowLike_spec {r r' : Row} {l : List Value} (h : rowLike r l = some r') : l.map den = r'.cells := by
  unfold rowLike at h
  split at h
  · rename_i k xs
    cases e : intsOf k l with
    | none => simp [e] at h
    | some ys => simp [e] at h; subst h; exact intsOf_spec e
  · cases e : boolsOf l with
    | none => simp [e] at h
    | some ys => simp [e] at h; subst h; exact boolsOf_spec e
  · cases e : strsOf l with
    | none => simp [e] at h
    | some ys => simp [e] at h; subst h; exact strsOf_spec e
  · cases e : pairsOf l with
    | none => simp [e] at h
    | some ys => simp [e] at h; subst h; exact pairsOf_spec e
  · cases h
theorem rowOf_spec {sz : Nat} {r : Row} {l : List Value} (h : rowOf sz l = some r) : l.map den = r.cells := by
  unfold rowOf at h
  split at h
  · cases h
  · split at h
    · exact rowLike_spec h
    · exact rowLike_spec h
    · split at h <;> exact rowLike_spec h
    · cases h
theorem asRow_spec {sz : Nat} {x : Blk} {r : Row} (h : x.asRow sz = some r) : ∃ ro, x.view = .cells r.cells ro := by
  unfold Blk.asRow at h
  split at h
  · simp only [Option.some.injEq] at h; subst h
    exact ⟨_, by rw [view_row, row_den]⟩
  · exact ⟨_, by rw [view_cells, rowOf_spec h]⟩
  · cases h
theorem asRow_row {sz : Nat} {x : Blk} {r : Row} {h : Hp} {b : Nat} (hb : h.get b = some x) (hx : x.asRow sz = some r) : h.view.row b = some r.cells := by
  obtain ⟨ro, e⟩ := asRow_spec hx
  unfold Hp.row
  rw [h.get_view, hb]
  simp only [Option.map_some, e]

theorem pairs_len (xs : List (ByteArray × ByteArray)) : (Row.pairs xs).cells.length = xs.length * 2 := by
  induction xs with
  | nil => rfl
  | cons x xs ih => rw [pairs_cons, List.length_cons, List.length_cons, ih, List.length_cons]; omega
theorem pairs_drop (xs : List (ByteArray × ByteArray)) : ∀ (j : Nat), (Row.pairs xs).cells.drop (j * 2) = (Row.pairs (xs.drop j)).cells := by
  induction xs with
  | nil => intro j; rw [pairs_nil, List.drop_nil, List.drop_nil]; rfl
  | cons x xs ih =>
    intro j
    cases j with
    | zero => rfl
    | succ j =>
      rw [pairs_cons, show (j + 1) * 2 = j * 2 + 2 from by omega, List.drop_succ_cons, List.drop_succ_cons, List.drop_succ_cons]
      exact ih j
theorem pairs_take (xs : List (ByteArray × ByteArray)) : ∀ (j : Nat), (Row.pairs xs).cells.take (j * 2) = (Row.pairs (xs.take j)).cells := by
  induction xs with
  | nil => intro j; rw [pairs_nil, List.take_nil, List.take_nil]; rfl
  | cons x xs ih =>
    intro j
    cases j with
    | zero => rfl
    | succ j =>
      rw [pairs_cons, show (j + 1) * 2 = j * 2 + 2 from by omega, List.take_succ_cons, List.take_succ_cons, List.take_succ_cons, pairs_cons]
      rw [ih j]
theorem pairs_app (xs ys : List (ByteArray × ByteArray)) : (Row.pairs (xs ++ ys)).cells = (Row.pairs xs).cells ++ (Row.pairs ys).cells := by
  induction xs with
  | nil => rfl
  | cons x xs ih => rw [List.cons_append, pairs_cons, pairs_cons, ih]; rfl

theorem pairs_get {xs : List (ByteArray × ByteArray)} {i : Nat} (h : i < xs.length * 2) : (Row.pairs xs).cells[i]? = some (.string (std.half xs i)) := by
  show _ = some (Value.string (if i % 2 = 0 then (xs.getD (i / 2) noPair).1 else (xs.getD (i / 2) noPair).2))
  induction xs generalizing i with
  | nil => simp at h
  | cons x xs ih =>
    rw [pairs_cons]
    rcases i with _ | _ | i
    · rfl
    · rfl
    · rw [List.getElem?_cons_succ, List.getElem?_cons_succ, ih (i := i) (by simp at h; omega), show (i + 2) % 2 = i % 2 from by omega, show (i + 2) / 2 = i / 2 + 1 from by omega, List.getD_cons_succ]
theorem pairs_get2 {xs : List (ByteArray × ByteArray)} {j : Nat} (h : j < xs.length) : ((Row.pairs xs).cells.drop (j * 2)).take 2 = [.string (xs.getD j noPair).1, .string (xs.getD j noPair).2] := by
  rw [pairs_drop, show 2 = 1 * 2 from rfl, pairs_take]
  rw [List.drop_eq_getElem_cons h, List.getD_eq_getElem?_getD, List.getElem?_eq_getElem h]
  rfl

/-- A part of a row is a part of its cells. -/
theorem sub_spec {r : Row} {o n : Nat} (h : (r.sub std o n).1) : (r.cells.drop o).take (n * r.esz) = (r.sub std o n).2.cells ∧ o + n * r.esz ≤ r.cells.length ∧ (r.sub std o n).2.cells.length = n * r.esz := by
  cases r with
  | vals z xs => exact absurd (show 0 < 0 from h) (Nat.lt_irrefl 0)
  | ints k xs =>
    have h : o + n ≤ xs.length := h
    show ((xs.map _).drop o).take (n * 1) = ((xs.drop o).take n).map _ ∧ o + n * 1 ≤ (xs.map (Value.int k)).length ∧ (((xs.drop o).take n).map (Value.int k)).length = n * 1
    rw [← List.map_drop, ← List.map_take, List.length_map, List.length_map, List.length_take, List.length_drop, Nat.mul_one]
    exact ⟨rfl, h, by omega⟩
  | bools xs =>
    have h : o + n ≤ xs.length := h
    show ((xs.map _).drop o).take (n * 1) = ((xs.drop o).take n).map _ ∧ o + n * 1 ≤ (xs.map Value.bool).length ∧ (((xs.drop o).take n).map Value.bool).length = n * 1
    rw [← List.map_drop, ← List.map_take, List.length_map, List.length_map, List.length_take, List.length_drop, Nat.mul_one]
    exact ⟨rfl, h, by omega⟩
  | strs xs =>
    have h : o + n ≤ xs.length := h
    show ((xs.map _).drop o).take (n * 1) = ((xs.drop o).take n).map _ ∧ o + n * 1 ≤ (xs.map Value.string).length ∧ (((xs.drop o).take n).map Value.string).length = n * 1
    rw [← List.map_drop, ← List.map_take, List.length_map, List.length_map, List.length_take, List.length_drop, Nat.mul_one]
    exact ⟨rfl, h, by omega⟩
  | pairs xs =>
    obtain ⟨h0, h⟩ := h
    have h0 : o % 2 = 0 := h0
    have h : o / 2 + n ≤ xs.length := h
    show ((Row.pairs xs).cells.drop o).take (n * 2) = (Row.pairs ((xs.drop (o / 2)).take n)).cells ∧ o + n * 2 ≤ (Row.pairs xs).cells.length ∧ (Row.pairs ((xs.drop (o / 2)).take n)).cells.length = n * 2
    rw [← pairs_take, ← pairs_drop, show o / 2 * 2 = o from by omega, pairs_len, List.length_take, List.length_drop, pairs_len]
    exact ⟨rfl, by omega, by omega⟩

theorem alts_lastBool {h : Hp} {ob : Prop} {b : Bool} {alts : List Alt} {G : Alt → Prop} (e : lastBool h ob b = some alts) (ht : b = true → ob → G ⟨some (b = true), some ob, .bool true, h⟩) (hf : b = false → ob → G ⟨some (b = false), some ob, .bool false, h⟩) : AltsOk alts G := by
  unfold lastBool at e
  simp only [Option.some.injEq] at e; subst e
  refine ⟨?_, fun a ha hc ho => ?_⟩
  · cases hb : b
    · exact ⟨_, List.mem_cons_of_mem _ (List.mem_singleton.2 rfl), rfl⟩
    · exact ⟨_, List.mem_cons_self, rfl⟩
  · rcases List.mem_cons.1 ha with rfl | ha
    · exact ht hc ho
    · rw [List.mem_singleton.1 ha] at hc ho ⊢; exact hf hc ho

theorem symLoad_ok {ρ : Operand → Value} {o : Oper} {t : TypeId} {a : Operand} {h : Hp} {alts : List Alt} (ho : o.op = .load t a) (e : symLoad std P t (ρ a) h = some alts) :
    AltsOk alts fun x => x.h = h ∧ SemR P ρ o h x.v := by
  have mkR : ∀ {v raw : Value}, loadA P t (den (ρ a)) h.view = some raw → (∀ {μ : Mu} {v'}, VR μ raw v' → VR μ v v') → SemR P ρ o h v := by
    intro v raw h1 h3
    refine semR_of (raw := raw) (by rw [ho]; rfl) ?_ h3
    unfold stepR
    rw [ho]
    exact h1
  have scal : ∀ {d : TypeDesc} {n b o' : Nat} {x : Blk} {r : Row} {raw : Value}, den (ρ a) = .pointer (some ⟨b, o', none⟩) → P.underlying t = some d → szA P t = some n → h.get b = some x → x.asRow n = some r → isAggD d = false →
      r.cells[o']? = some raw → loadA P t (den (ρ a)) h.view = some raw := by
    intro d n b o' x r raw ha hd hn hx hr hag hc
    unfold loadA
    rw [ha]
    simp only [hd, hn, asRow_row hx hr, hag, Bool.false_eq_true, if_false]
    exact hc
  unfold symLoad at e
  split at e
  · rename_i b o' ha
    split at e
    · rename_i d n x hd hn hx
      split at e
      · rename_i r hr
        split at e
        · rename_i hag
          split at e
          · rename_i xs
            split at e
            · rename_i hn2
              subst hn2
              refine alts_one e fun hob => ⟨rfl, mkR (raw := .agg #[.string (xs.getD (o' / 2) noPair).1, .string (xs.getD (o' / 2) noPair).2]) ?_ fun {μ v'} h1 => ?_⟩
              · obtain ⟨h0, h1⟩ := hob
                have h0 : o' % 2 = 0 := h0
                have h1 : o' / 2 < xs.length := h1
                unfold loadA
                rw [ha]
                simp only [hd, hn, asRow_row hx hr, hag, if_true]
                rw [if_pos (by rw [pairs_len]; omega)]
                have := pairs_get2 h1
                rw [show o' / 2 * 2 = o' from by omega] at this
                rw [this]
              · obtain ⟨ys, rfl, hys⟩ := h1.inv_agg
                obtain ⟨y1, l1, e1, r1, hys⟩ := hys.inv_cons
                obtain ⟨y2, l2, e2, r2, hys⟩ := hys.inv_cons
                refine .agg ?_
                rw [e1, e2]
                exact All2.cons (.zero (.mark (r1.zero_of_basic rfl) rfl)) (All2.cons (.zero (.mark (r2.zero_of_basic rfl) rfl)) hys)
            · cases e
          · rename_i k xs
            split at e
            · refine alts_one e fun hob => ⟨rfl, mkR (raw := .agg ((List.range n).map fun i => Value.int k (xs.getD (o' + i) 0)).toArray) ?_ fun {μ v'} h1 => ?_⟩
              · have hob : o' + n ≤ xs.length := hob
                unfold loadA
                rw [ha]
                simp only [hd, hn, asRow_row hx hr, hag, if_true]
                rw [if_pos (by show o' + n ≤ (xs.map _).length; rw [List.length_map]; exact hob)]
                congr 3
                show ((xs.map (Value.int k)).drop o').take n = _
                refine List.ext_getElem? fun i => ?_
                rw [List.getElem?_map]
                by_cases hi : i < n
                · rw [List.getElem?_take_of_lt hi, List.getElem?_drop, List.getElem?_map, List.getElem?_range hi, List.getElem?_eq_getElem (show o' + i < xs.length by omega)]
                  simp only [Option.map_some, List.getD_eq_getElem?_getD]
                  rw [List.getElem?_eq_getElem (show o' + i < xs.length by omega)]; rfl
                · rw [List.getElem?_eq_none (by rw [List.length_take]; omega), List.getElem?_eq_none (by rw [List.length_range]; omega)]; rfl
              · obtain ⟨ys, rfl, hys⟩ := h1.inv_agg
                refine .agg ?_
                simp only at hys ⊢
                refine ⟨by rw [← hys.1, List.length_map, List.length_map], fun i a ha => ?_⟩
                rw [List.getElem?_map] at ha
                cases hri : (List.range n)[i]? with
                | none => rw [hri] at ha; cases ha
                | some j =>
                  rw [hri] at ha
                  simp only [Option.map_some, Option.some.injEq] at ha
                  subst ha
                  obtain ⟨b, hb, r⟩ := hys.2 i (.int k (xs.getD (o' + j) 0)) (by rw [List.getElem?_map, hri]; rfl)
                  exact ⟨b, hb, .zero (.mark (r.zero_of_basic rfl) rfl)⟩
            · cases e
          · cases e
        · rename_i hag
          have hag : isAggD d = false := by simpa using hag
          split at e
          · rename_i k xs
            refine alts_one e fun hob => ⟨rfl, mkR (raw := .int k (xs.getD o' 0)) (scal ha hd hn hx hr hag ?_) fun {μ v'} h1 => (show Marks (mk (.int k (xs.getD o' 0))) (.int k (xs.getD o' 0)) from .inr ⟨rfl, rfl⟩).vr h1⟩
            have hob : o' < xs.length := hob
            show (xs.map _)[o']? = _
            rw [List.getElem?_map, List.getD_eq_getElem?_getD, List.getElem?_eq_getElem hob]; rfl
          · rename_i xs
            have key : ∀ b : Bool, xs.getD o' false = b → o' < xs.length → SemR P ρ o h (.bool b) := by
              intro b hb hob
              refine mkR (raw := .bool b) (scal ha hd hn hx hr hag ?_) fun h1 => h1
              show (xs.map _)[o']? = _
              rw [List.getElem?_map, ← hb, List.getD_eq_getElem?_getD, List.getElem?_eq_getElem hob]; rfl
            exact alts_lastBool e (fun hb hob => ⟨rfl, key true hb hob⟩) (fun hb hob => ⟨rfl, key false hb hob⟩)
          · rename_i xs
            refine alts_one e fun hob => ⟨rfl, mkR (raw := .string (xs.getD o' ⟨#[]⟩)) (scal ha hd hn hx hr hag ?_) fun {μ v'} h1 => (show Marks (mk (.string (xs.getD o' ⟨#[]⟩))) (.string (xs.getD o' ⟨#[]⟩)) from .inr ⟨rfl, rfl⟩).vr h1⟩
            have hob : o' < xs.length := hob
            show (xs.map _)[o']? = _
            rw [List.getElem?_map, List.getD_eq_getElem?_getD, List.getElem?_eq_getElem hob]; rfl
          · rename_i xs
            refine alts_one e fun hob => ⟨rfl, mkR (raw := .string (std.half xs o')) (scal ha hd hn hx hr hag (pairs_get hob)) fun {μ v'} h1 => (show Marks (mk (.string (std.half xs o'))) (.string (std.half xs o')) from .inr ⟨rfl, rfl⟩).vr h1⟩
          · cases e
      · cases e
    · cases e
  · cases e

theorem bytesOf_map (xs : List Int) : bytesOf? (xs.map (.int .u8)) = some (xs.map fun n => UInt8.ofNat n.toNat) := by
  induction xs with
  | nil => rfl
  | cons x xs ih => simp only [List.map_cons, bytesOf?, byteOf?, ih]

theorem bytesRow_row {x : Blk} {xs : List Int} {h : Hp} {b : Nat} (hb : h.get b = some x) (hx : x.bytesRow = some xs) : h.view.row b = some (Row.ints .u8 xs).cells := by
  unfold Blk.bytesRow at hx
  split at hx
  · simp only [Option.some.injEq] at hx; subst hx
    unfold Hp.row
    rw [h.get_view, hb]; rfl
  · split at hx
    · rename_i hr
      simp only [Option.some.injEq] at hx; subst hx
      exact asRow_row hb hr
    · cases hx
theorem symR_ok {ρ : Operand → Value} {o : Oper} {h : Hp} {alts : List Alt} (e : symR std P ρ o h = some alts) : kindOf P o.op = .R ∧ AltsOk alts fun a => a.h = h ∧ SemR P ρ o h a.v := by
  unfold symR at e
  split at e
  · rename_i ho
    exact ⟨by rw [ho]; rfl, symLoad_ok ho e⟩
  · rename_i src dst x ho
    split at e
    · rename_i el hs hd
      have hk : kindOf P o.op = .R := by rw [ho]; simp only [kindOf, hs, hd]
      refine ⟨hk, ?_⟩
      split at e
      · rename_i b o' n k he hx
        split at e
        · rename_i blk hb
          split at e
          · rename_i xs hr
            refine alts_one e fun hob => ⟨rfl, semR_of (raw := .string (std.sof (std.take n (std.drop o' xs)))) hk ?_ fun h1 => (show Marks (mk _) _ from .inr ⟨rfl, rfl⟩).vr h1⟩
            unfold stepR
            rw [ho]
            simp only [bytesA, hs, he, hx]
            obtain ⟨h1, h2, h3⟩ := sub_spec (r := .ints .u8 xs) (o := o') (n := n) hob
            have hc : h.view.cells b o' n = some ((xs.drop o').take n |>.map (.int .u8)) := by
              unfold Hp.cells
              rw [bytesRow_row hb hr]
              have h1 : ((Row.ints IntKind.u8 xs).cells.drop o').take (n * 1) = ((xs.drop o').take n).map (.int .u8) := h1
              have h2 : o' + n * 1 ≤ (Row.ints IntKind.u8 xs).cells.length := h2
              rw [Nat.mul_one] at h1 h2
              simp only [h2, if_true, h1]
            rw [hc]
            simp only [bytesOf_map, Option.map_some]
            rfl
          · cases e
        · cases e
      · cases e
    · cases e
  · cases e
end
end Go.Abs
