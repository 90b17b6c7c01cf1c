/-
  THE ABSTRACT EVALUATOR AND THE MODEL: heaps that stand for one another; operations that read memory, or make a block.
-/
import Derived.Test.YtolkoacllaaceaaAbs6
namespace Go.Abs
open Go

def ownB : Blk → Bool
  | .cells _ ro => !ro
  | .map .. => true
  | .row _ ro => !ro

/-- Entries of maps. -/
structure ER (μ : Mu) (e e' : MapEntry) : Prop where
  key : e'.key = e.key
  born : e'.born = e.born
  val : VRa μ e.val e'.val

/-- A block, and the model's block that holds it. -/
def BR (μ : Mu) (base : Nat) (w : World) (p : Pl) : Blk → Prop
  | .cells cs ro => ∃ arr e fr, w.heap[p.c]? = some (.cells arr e fr) ∧ arr.size = p.N ∧
      (∀ i v, cs[i]? = some v → ∃ v', arr[p.s + i]? = some v' ∧ VR1 μ v v') ∧
      (ro = false → base ≤ p.c ∧ (∀ i, i < arr.size → ¬ (fr.1 ≤ i ∧ i < fr.2)) ∧ (cs.length = 1 → p.s = 0))
  | .map es clock => ∃ es', w.heap[p.c]? = some (.map es' clock) ∧ All2 (ER μ) es es'.toList ∧ base ≤ p.c
  | .row r ro => ∃ arr e fr, w.heap[p.c]? = some (.cells arr e fr) ∧ arr.size = p.N ∧
      (∀ i v, r.cells[i]? = some v → ∃ v', arr[p.s + i]? = some v' ∧ VR1 μ v v') ∧
      (ro = false → base ≤ p.c ∧ (∀ i, i < arr.size → ¬ (fr.1 ≤ i ∧ i < fr.2)) ∧ (r.cells.length = 1 → p.s = 0))

abbrev Gm := Nat → Option Blk

structure Rel (μ : Mu) (base : Nat) (g : Gm) (w : World) : Prop where
  size : base ≤ w.heap.size
  blk : ∀ b p x, μ b = some p → g b = some x → BR μ base w p x
  inj : ∀ b b' p p' x x', μ b = some p → μ b' = some p' → g b = some x → g b' = some x' → b ≠ b' → ownB x = true → p.c ≠ p'.c
  frz : ∀ c i a, μ.z c i = some a → (∃ arr e fr, w.heap[c]? = some (.cells arr e fr) ∧ arr[i]? = some a) ∧ ∀ b p x, μ b = some p → g b = some x → ownB x = true → p.c = c → i < p.s

/-- What the model's blocks that are nobody's are like behind a step. -/
structure Fr (μ : Mu) (g : Gm) (w w' : World) : Prop where
  os : w'.os = w.os
  tape : w'.tape = w.tape
  output : w'.output = w.output
  size : w.heap.size ≤ w'.heap.size
  block : ∀ c, c < w.heap.size → (∀ b p x, μ b = some p → g b = some x → ownB x = true → p.c ≠ c) → w'.heap[c]? = w.heap[c]?

structure Sim (μ : Mu) (base : Nat) (g : Gm) (w : World) (μ' : Mu) (g' : Gm) (w' : World) : Prop where
  le : Mu.le μ μ'
  rel : Rel μ' base g' w'
  fr : Fr μ g w w'
  own : ∀ b p x, μ' b = some p → g' b = some x → w.heap.size ≤ p.c ∨ ∃ b0 p0 x0, μ b0 = some p0 ∧ g b0 = some x0 ∧ (ownB x = true → ownB x0 = true) ∧ p0.c = p.c
  fz : ∀ c i a, μ'.z c i = some a → μ.z c i = some a ∨ w.heap.size ≤ c ∨ ∃ b0 p0 x0, μ b0 = some p0 ∧ g b0 = some x0 ∧ ownB x0 = true ∧ p0.c = c

theorem Fr.refl (μ : Mu) (g : Gm) (w : World) : Fr μ g w w := ⟨rfl, rfl, rfl, Nat.le_refl _, fun _ _ _ => rfl⟩
theorem Sim.refl {μ : Mu} {base : Nat} {g : Gm} {w : World} (h : Rel μ base g w) : Sim μ base g w μ g w :=
  ⟨Mu.le_refl μ, h, Fr.refl μ g w, fun b p x hb hg => .inr ⟨b, p, x, hb, hg, id, rfl⟩, fun _ _ _ h => .inl h⟩
theorem Sim.trans {μ μ1 μ2 : Mu} {base : Nat} {g g1 g2 : Gm} {w w1 w2 : World} (h : Sim μ base g w μ1 g1 w1) (k : Sim μ1 base g1 w1 μ2 g2 w2) : Sim μ base g w μ2 g2 w2 := by
  refine ⟨Mu.le_trans h.le k.le, k.rel, ⟨k.fr.os.trans h.fr.os, k.fr.tape.trans h.fr.tape, k.fr.output.trans h.fr.output, Nat.le_trans h.fr.size k.fr.size, fun c hc hn => ?_⟩, fun b p x hb hg => ?_, fun c i a hc => ?_⟩
  · rw [k.fr.block c (Nat.lt_of_lt_of_le hc h.fr.size) ?_, h.fr.block c hc hn]
    intro b p x hb hg ho e
    rcases h.own b p x hb hg with h1 | ⟨b0, p0, x0, h1, h2, h3, h4⟩
    · omega
    · exact hn b0 p0 x0 h1 h2 (h3 ho) (h4.trans e)
  · rcases k.own b p x hb hg with h1 | ⟨b0, p0, x0, h1, h2, h3, h4⟩
    · exact .inl (Nat.le_trans h.fr.size h1)
    · rcases h.own b0 p0 x0 h1 h2 with h5 | ⟨b1, p1, x1, h5, h6, h7, h8⟩
      · exact .inl (by omega)
      · exact .inr ⟨b1, p1, x1, h5, h6, fun h => h7 (h3 h), h8.trans h4⟩
  · rcases k.fz c i a hc with h1 | h1 | ⟨b0, p0, x0, h1, h2, ho, h3⟩
    · exact h.fz c i a h1
    · exact .inr (.inl (Nat.le_trans h.fr.size h1))
    · rcases h.own b0 p0 x0 h1 h2 with h5 | ⟨b1, p1, x1, h5, h6, h7, h8⟩
      · exact .inr (.inl (by omega))
      · exact .inr (.inr ⟨b1, p1, x1, h5, h6, h7 ho, h8.trans h3⟩)

section
variable {P : Program} {μ : Mu} {base : Nat} {w : World}

theorem BR.keep {μ' : Mu} {w' : World} {p : Pl} {x : Blk} (h : BR μ base w p x) (hm : Mu.le μ μ') (hw : w'.heap[p.c]? = w.heap[p.c]?) : BR μ' base w' p x := by
  cases x with
  | cells cs ro =>
    obtain ⟨arr, e, fr, h1, h2, h3, h4⟩ := h
    exact ⟨arr, e, fr, hw.trans h1, h2, fun i v hi => let ⟨v', a, b⟩ := h3 i v hi; ⟨v', a, b.mono hm⟩, h4⟩
  | map es ck =>
    obtain ⟨es', h1, h2, h3⟩ := h
    exact ⟨es', hw.trans h1, h2.mono fun _ _ _ r => ⟨r.key, r.born, r.val.mono hm⟩, h3⟩
  | row r ro =>
    obtain ⟨arr, e, fr, h1, h2, h3, h4⟩ := h
    exact ⟨arr, e, fr, hw.trans h1, h2, fun i v hi => let ⟨v', a, b⟩ := h3 i v hi; ⟨v', a, b.mono hm⟩, h4⟩
theorem BR.lt {p : Pl} {x : Blk} (h : BR μ base w p x) : p.c < w.heap.size := by
  cases x with
  | cells cs ro => obtain ⟨arr, e, fr, h1, _⟩ := h; exact (Array.getElem?_eq_some_iff.1 h1).1
  | map es ck => obtain ⟨es', h1, _⟩ := h; exact (Array.getElem?_eq_some_iff.1 h1).1
  | row r ro => obtain ⟨arr, e, fr, h1, _⟩ := h; exact (Array.getElem?_eq_some_iff.1 h1).1

theorem Rel.less {g g' : Gm} (h : Rel μ base g w) (hg : ∀ b p x, μ b = some p → g' b = some x → g b = some x) : Rel μ base g' w :=
  ⟨h.size, fun b p x hb hx => h.blk b p x hb (hg b p x hb hx), fun b b' p p' x x' h1 h2 h3 h4 h5 h6 => h.inj b b' p p' x x' h1 h2 (hg b p x h1 h3) (hg b' p' x' h2 h4) h5 h6,
    fun c i a hc => ⟨(h.frz c i a hc).1, fun b p x hb hx => (h.frz c i a hc).2 b p x hb (hg b p x hb hx)⟩⟩

/-- A row that stands for a row. -/
theorem row_rel {cs : List Value} {arr : Array Value} {s o n : Nat} (h : ∀ i v, cs[i]? = some v → ∃ v', arr[s + i]? = some v' ∧ VR1 μ v v') (hl : o + n ≤ cs.length) :
    All2 (VR1 μ) ((cs.drop o).take n) ((arr.toList.drop (o + s)).take n) ∧ ((arr.toList.drop (o + s)).take n).length = n := by
  have hlen : ((arr.toList.drop (o + s)).take n).length = n := by
    rw [List.length_take, List.length_drop, Array.length_toList]
    rcases Nat.eq_zero_or_pos n with rfl | hp
    · simp
    · have hi : o + n - 1 < cs.length := by omega
      obtain ⟨v', h1, _⟩ := h (o + n - 1) _ (List.getElem?_eq_getElem hi)
      have := (Array.getElem?_eq_some_iff.1 h1).1
      omega
  refine ⟨⟨by rw [hlen, List.length_take, List.length_drop]; omega, fun i a ha => ?_⟩, hlen⟩
  rw [List.getElem?_take] at ha ⊢
  split at ha
  · rename_i hi
    rw [if_pos hi]
    rw [List.getElem?_drop] at ha ⊢
    obtain ⟨v', h1, h2⟩ := h (o + i) a ha
    exact ⟨v', by rw [Array.getElem?_toList, ← h1]; congr 1; omega, h2⟩
  · cases ha

theorem cells_run {b o n : Nat} {h : Hp} {cs : List Value} (hc : h.cells b o n = some cs) (hr : Rel μ base h.get w) {p : Pl} (hp : μ b = some p) :
    ∃ cs', All2 (VR1 μ) cs cs' ∧ cs'.length = n ∧ (∀ j v, cs'[j]? = some v → w.cell? ((⟨p.c, o + p.s, none⟩ : Addr).add j) = some v) := by
  unfold Hp.cells Hp.row at hc
  cases e : h.get b with
  | none => simp [e] at hc
  | some x =>
    cases x with
    | map _ _ => simp [e] at hc
    | row _ _ => simp [e] at hc
    | cells row ro =>
      simp only [e] at hc
      split at hc
      · rename_i hl
        simp only [Option.some.injEq] at hc; subst hc
        obtain ⟨arr, et, fr, h1, h2, h3, h4⟩ := hr.blk b p _ hp e
        obtain ⟨h5, h6⟩ := row_rel (s := p.s) h3 hl
        refine ⟨_, h5, h6, fun j v hj => ?_⟩
        rw [add_rel, cell_of_row w p.c _ arr et fr h1]
        rw [List.getElem?_take] at hj
        split at hj
        · rw [List.getElem?_drop, Array.getElem?_toList] at hj
          rw [← hj]; congr 1; omega
        · cases hj
      · cases hc

theorem loadA_run {t : TypeId} {a a' v : Value} {h : Hp} (hl : loadA P t a h = some v) (hr : Rel μ base h.get w) (ha : VR μ a a') :
    ∃ v', (Instr.loadAt t a').run P w = .ok v' w ∧ VR μ v v' := by
  unfold loadA at hl
  split at hl
  · rename_i b o
    obtain ⟨p, hp, rfl⟩ := ha.inv_ptr
    split at hl
    · rename_i d n cs hu hn hrow
      unfold Instr.loadAt loadVar
      simp only [Instr.sureAddr, Sem.run_bind, Sem.run_pure, Result.andThen_ok, isAgg_run hu]
      cases hd : isAggD d with
      | true =>
        simp only [hd, if_true] at hl ⊢
        split at hl
        · rename_i hlen
          simp only [Option.some.injEq] at hl; subst hl
          have hc : h.cells b o n = some ((cs.drop o).take n) := by unfold Hp.cells; rw [hrow]; simp [hlen]
          obtain ⟨cs', h1, h2, h3⟩ := cells_run hc hr hp
          refine ⟨.agg cs'.toArray, ?_, .agg (by simpa using h1)⟩
          have := run_loadCells_list (P := P) w ⟨p.c, o + p.s, none⟩ cs' h3
          rw [h2] at this
          simp only [Sem.run_bind, szA_run hn, Result.andThen_ok, this, Sem.run_pure]
        · cases hl
      | false =>
        simp only [hd, Bool.false_eq_true, if_false] at hl ⊢
        unfold Hp.row at hrow
        cases e : h.get b with
        | none => simp [e] at hrow
        | some x =>
          cases x with
          | map _ _ => simp [e] at hrow
          | row _ _ => simp [e] at hrow
          | cells row ro =>
            simp only [e, Option.some.injEq] at hrow; subst hrow
            obtain ⟨arr, et, fr, h1, h2, h3, h4⟩ := hr.blk b p _ hp e
            obtain ⟨v', h5, h6⟩ := h3 o v hl
            refine ⟨v', ?_, .one h6⟩
            have hcell : w.cell? ⟨p.c, o + p.s, none⟩ = some v' := by
              rw [cell_of_row w p.c _ arr et fr h1, ← h5]; congr 1; omega
            simp [hcell]
    · cases hl
  · cases hl

theorem checkKey_run {kt : TypeId} {kd : TypeDesc} (hk : P.underlying kt = some kd) (hkk : keyKind kd = true) (b : Bool) (key : Value) (w : World) :
    (Instr.checkKey b 10000 kt key).run P w = .ok () w := by
  rw [show (10000 : Nat) = 9999 + 1 from rfl, Instr.checkKey]
  simp only [Sem.run_bind, run_underlying hk, Result.andThen_ok]
  cases kd <;> first | (simp [keyKind] at hkk; done) | rfl

theorem findNow_rel {kd : TypeDesc} {key : Value} : ∀ {es es' : List MapEntry} {i : Nat} {r : Option (Nat × Value)}, All2 (ER μ) es es' → Instr.findNow kd key es i = some r →
    (r = none ∧ Instr.findNow kd key es' i = some none) ∨ ∃ j v v', r = some (j, v) ∧ Instr.findNow kd key es' i = some (some (j, v')) ∧ VRa μ v v'
  | [], es', i, r, h, hf => by
    have := h.inv_nil; subst this
    simp only [Instr.findNow, Option.some.injEq] at hf; subst hf
    exact .inl ⟨rfl, rfl⟩
  | e :: es, es', i, r, h, hf => by
    obtain ⟨e', es'', rfl, he, hr⟩ := h.inv_cons
    unfold Instr.findNow at hf ⊢
    rw [he.key]
    split at hf
    · rename_i hs
      simp only [Option.some.injEq] at hf; subst hf
      exact .inr ⟨i, e.val, e'.val, rfl, rfl, he.val⟩
    · rename_i hs
      exact findNow_rel hr hf
    · cases hf

theorem findKey_run {kt : TypeId} {kd : TypeDesc} (hk : P.underlying kt = some kd) {key : Value} {es : List MapEntry} {r : Option (Nat × Value)} (hf : Instr.findNow kd key es 0 = some r) (w : World) :
    (Instr.findKey kt key es).run P w = .ok r w := by
  unfold Instr.findKey
  simp only [Sem.run_bind, run_underlying hk, Result.andThen_ok, hf]
  rfl

theorem mapRow_run {m m' : Value} {h : Hp} {es : List MapEntry} (hm : mapRow h m = some es) (hr : Rel μ base h.get w) (hv : VR μ m m') :
    (m = .map none ∧ m' = .map none ∧ es = []) ∨ ∃ b p es' ck, m = .map (some b) ∧ μ b = some p ∧ m' = .map (some p.c) ∧ h.get b = some (.map es ck) ∧ w.heap[p.c]? = some (.map es' ck) ∧ All2 (ER μ) es es'.toList := by
  unfold mapRow at hm
  split at hm
  · simp at hm; subst hm; exact .inl ⟨rfl, hv.eq_of_plain rfl, rfl⟩
  · rename_i b
    obtain ⟨p, hp, rfl⟩ := hv.inv_map
    split at hm
    · rename_i es0 ck e
      simp at hm; subst hm
      obtain ⟨es', h1, h2, h3⟩ := hr.blk b p _ hp e
      exact .inr ⟨b, p, es', ck, rfl, hp, rfl, e, h1, h2⟩
    · cases hm
  · cases hm

theorem getObj_map {r : Nat} {es : Array MapEntry} {ck : Nat} (h : w.heap[r]? = some (.map es ck)) : (getObj r).run P w = .ok (.map es ck) w := by
  simp [getObj, Sem.run, h]

theorem lookupA_run {t : TypeId} {m m' key key' v : Value} {ok : Bool} {h : Hp} (hl : lookupA P t m key ok h = some v) (hr : Rel μ base h.get w) (hm : VR μ m m') (hk : VR μ key key') :
    ∃ v', (Instr.lookup t m' key' ok).run P w = .ok v' w ∧ VR μ v v' := by
  unfold lookupA at hl
  split at hl
  · rename_i kt et hu
    split at hl
    · rename_i kd es hku hrow
      split at hl
      · rename_i hkk
        simp only [Bool.and_eq_true] at hkk
        have hpk : plainV key = true := by
          cases key <;> simp_all [plainV, plain1]
        have := hk.eq_of_plain hpk; subst this
        have key0 : ∀ (es' : Array MapEntry), All2 (ER μ) es es'.toList → ∀ w0 : World, w0 = w →
            ∃ v', (do
              Instr.checkKey es'.isEmpty 10000 kt key'
              let (v, okk) ← match ← Instr.findKey kt key' es'.toList with
                | some (_, v) => pure (v, true)
                | none => pure (← zeroValue et, false)
              pure (if ok then .tuple #[v, .bool okk] else v) : Sem Value).run P w0 = .ok v' w0 ∧ VR μ v v' := by
          rintro es' hes w0 rfl
          simp only [Sem.run_bind, checkKey_run hku hkk.1, Result.andThen_ok]
          have mk : ∀ (x x' : Value) (okb : Bool), VRa μ x x' → VR μ (if ok then .tuple #[x, .bool okb] else x) (if ok then .tuple #[x', .bool okb] else x') := by
            intro x x' okb hx
            cases ok
            · exact .a hx
            · exact .tup (by simpa using All2.cons hx (All2.cons (VRa.one (.refl_plain rfl)) All2.nil))
          split at hl
          · rename_i i u hf
            simp only [Option.some.injEq] at hl; subst hl
            rcases findNow_rel hes hf with ⟨h1, _⟩ | ⟨j, v1, v2, h1, h2, h3⟩
            · cases h1
            · simp at h1; obtain ⟨rfl, rfl⟩ := h1
              rw [findKey_run hku h2]
              exact ⟨_, rfl, mk _ _ _ h3⟩
          · rename_i hf
            split at hl
            · rename_i z hz
              simp only [Option.some.injEq] at hl; subst hl
              obtain ⟨hzr, hzp⟩ := zeroA_run hz w0
              rcases findNow_rel hes hf with ⟨h1, h2⟩ | ⟨j, v1, v2, h1, _⟩
              · rw [findKey_run hku h2]
                simp only [Result.andThen_ok, Sem.run_bind, hzr, Sem.run_pure]
                exact ⟨_, rfl, mk _ _ _ (.refl_plain (plainA_spec hzp).1 (plainA_spec hzp).2)⟩
              · cases h1
            · cases hl
          · cases hl
        rcases mapRow_run hrow hr hm with ⟨rfl, rfl, rfl⟩ | ⟨b, p, es', ck, rfl, hp, rfl, hg, hw, hes⟩
        · obtain ⟨v', h1, h2⟩ := key0 #[] All2.nil w rfl
          exact ⟨v', by simp only [Instr.lookup, Sem.run_bind, run_underlying hu, Result.andThen_ok, Sem.run_pure] at h1 ⊢; exact h1, h2⟩
        · obtain ⟨v', h1, h2⟩ := key0 es' hes w rfl
          refine ⟨v', ?_, h2⟩
          simp only [Instr.lookup, Sem.run_bind, run_underlying hu, Result.andThen_ok, getObj_map hw, Sem.run_pure] at h1 ⊢
          exact h1
      · cases hl
    · cases hl
  · cases hl

theorem bytesOf_ints : ∀ {l : List Value} {bs : List UInt8}, bytesOf? l = some bs → ∃ ns : List Int, l = ns.map (Value.int .u8) ∧ bs = ns.map fun n => UInt8.ofNat n.toNat
  | [], bs, h => by simp only [bytesOf?, Option.some.injEq] at h; subst h; exact ⟨[], rfl, rfl⟩
  | v :: r, bs, h => by
    unfold bytesOf? at h
    split at h
    · rename_i b l hb hl
      simp only [Option.some.injEq] at h; subst h
      obtain ⟨ns, rfl, rfl⟩ := bytesOf_ints hl
      unfold byteOf? at hb
      split at hb
      · rename_i n
        simp only [Option.some.injEq] at hb; subst hb
        exact ⟨n :: ns, rfl, rfl⟩
      · cases hb
    · cases h

theorem bytesA_run {src dst : TypeId} {x x' v : Value} {h : Hp} (hl : bytesA P src x h = some v) (hd : P.underlying dst = some .string) (hr : Rel μ base h.get w) (hx : VR μ x x') :
    ∃ v', (convert src dst x').run P w = .ok v' w ∧ VR μ v v' := by
  unfold bytesA at hl
  split at hl
  · rename_i e hu
    split at hl
    · rename_i he
      split at hl
      · simp at hl; subst hl
        have := hx.eq_of_plain (v := .slice none 0 0) rfl; subst this
        exact ⟨_, run_convert_bytes_nil w src e hu he 0 0 dst hd, .plain1 rfl⟩
      · rename_i b o n k
        split at hl
        · rename_i cs hcs
          cases hb : bytesOf? cs with
          | none => simp [hb] at hl
          | some bs =>
            simp [hb] at hl; subst hl
            obtain ⟨ns, rfl, rfl⟩ := bytesOf_ints hb
            rcases hx.inv_slice with ⟨p, k', hp, rfl, hlen, _⟩ | ⟨rfl, hk, a', _, rfl⟩
            · obtain ⟨cs', h1, h2, h3⟩ := cells_run hcs hr hp
              have hpl : (ns.map (Value.int .u8)).all plain1 = true := by
                rw [List.all_map, List.all_eq_true]; intro i _; rfl
              have := all2_eq_of_plain h1 hpl; subst this
              have hlc := run_loadCells_list (P := P) w ⟨p.c, o + p.s, none⟩ _ h3
              rw [h2] at hlc
              refine ⟨_, ?_, .plain1 rfl⟩
              rw [run_convert_bytes_string w src dst e _ n k' hu he hd, run_bytesToString w _ n k' ns hlc, foldl_push_bytes]
              simp [ByteArray.empty, ByteArray.emptyWithCapacity]
              rfl
            · have hns : ns = [] := by
                unfold Hp.cells at hcs
                split at hcs
                · split at hcs
                  · simp at hcs; exact hcs
                  · cases hcs
                · cases hcs
              subst hns
              refine ⟨_, ?_, .plain1 rfl⟩
              rw [run_convert_bytes_string w src dst e _ 0 0 hu he hd, run_bytesToString w _ 0 0 [] rfl]
              rfl
        · cases hl
      · cases hl
    · cases hl
  · cases hl

/-- EACH OPERATION THAT READS MEMORY. -/
theorem simR {o : Oper} {ρ ρ' : Operand → Value} {v : Value} {h : Hp} (hk : kindOf P o.op = .R) (hs : stepR P ρ o h = some v) (hr : OpR μ ρ ρ' o.op.operands.toList) (hrel : Rel μ base h.get w) :
    ∃ v', (execOp ρ' o).run P w = .ok (.value v') w ∧ VR μ v v' := by
  obtain ⟨dst, op, ty, pos, after, guard⟩ := o
  unfold OpR at hr
  cases op <;> first | (simp [stepR] at hs; done) | skip
  all_goals simp only [stepR] at hs
  all_goals simp only [Op.operands] at hr
  all_goals simp only [execOp]
  case load t a =>
    obtain ⟨v', h1, h2⟩ := loadA_run hs hrel (hr a (by simp))
    exact ⟨v', by simp [h1], h2⟩
  case lookup t m k ok =>
    obtain ⟨v', h1, h2⟩ := lookupA_run hs hrel (hr m (by simp)) (hr k (by simp))
    exact ⟨v', by simp [h1], h2⟩
  case convert src dst x =>
    simp only [kindOf] at hk
    split at hk
    · rename_i e hu hd
      obtain ⟨v', h1, h2⟩ := bytesA_run hs hd hrel (hr x (by simp))
      exact ⟨v', by simp [h1], h2⟩
    · cases hk
    · cases hk
  case call c =>
    obtain ⟨cal, args, argTypes⟩ := c
    cases cal with
    | value f => simp at hs
    | invoke r n => simp at hs
    | builtin b =>
      cases b <;> first | (simp at hs; done) | skip
      simp only at hs
      split at hs
      · rename_i t ht
        have hl : All2 (VR μ) (args.toList.map ρ) (args.map ρ').toList := by
          rw [Array.toList_map]
          exact list_rel fun x hx => hr x (by simpa [Call.operands] using hx)
        split at hs
        · rename_i kt et m hu hm
          rw [hm] at hl
          obtain ⟨y, l, hy, hx, hn⟩ := hl.inv_cons
          have := hn.inv_nil; subst this
          have h0 : (args.map ρ')[0]? = some y := by rw [← Array.getElem?_toList, hy]; rfl
          cases hrow : mapRow h m with
          | none => simp [hrow] at hs
          | some es =>
            simp [hrow] at hs; subst hs
            refine ⟨goInt es.length, ?_, .plain1 rfl⟩
            simp only [resolve, invoke, Sem.run_bind, Sem.run_pure, Result.andThen_ok]
            rcases mapRow_run hrow hrel hx with ⟨rfl, rfl, rfl⟩ | ⟨b, p, es', ck, rfl, hp, rfl, hg, hw, hes⟩
            · simp [builtin, Builtin.len_, ht, h0, run_underlying hu]
            · have : es.length = es'.size := by rw [hes.1, Array.length_toList]
              simp [builtin, Builtin.len_, ht, h0, run_underlying hu, getObj_map hw, this]
        · cases hs
      · cases hs
end
end Go.Abs
