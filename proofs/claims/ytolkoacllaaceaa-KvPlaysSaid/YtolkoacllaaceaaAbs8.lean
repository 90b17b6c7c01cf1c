/-
  THE ABSTRACT EVALUATOR AND THE MODEL: operations that make a block.
-/
import Derived.Test.YtolkoacllaaceaaAbs7
namespace Go.Abs
open Go

/-- One block more. -/
structure Grow (w w' : World) (o : Obj) : Prop where
  os : w'.os = w.os
  tape : w'.tape = w.tape
  output : w'.output = w.output
  size : w'.heap.size = w.heap.size + 1
  old : ∀ c, c < w.heap.size → w'.heap[c]? = w.heap[c]?
  new : w'.heap[w.heap.size]? = some o

theorem grow_alloc (w : World) (o : Obj) : Grow w (w.alloc o) o :=
  ⟨rfl, rfl, rfl, by simp, fun c hc => RowKit.Below.heap_alloc w o c hc, heap_alloc_new w o⟩
theorem grow_drew_alloc (w : World) (o : Obj) : Grow w (w.drew.alloc o) o :=
  ⟨rfl, rfl, rfl, by simp, fun c hc => RowKit.Below.heap_alloc w.drew o c hc, heap_alloc_new w.drew o⟩
theorem grow_bytes (w : World) (e : TypeId) (s : ByteArray) : Grow w (Lib.bytesWorld w e s) (.cells (Lib.bytesCells w e s) e ((Lib.bytesCells w e s).size, (Lib.bytesCells w e s).size + 1)) := by
  refine ⟨?_, ?_, ?_, Lib.bytesWorld_size w e s, fun c hc => Lib.bytesWorld_at_old w e s c hc, Lib.bytesWorld_at_new w e s⟩ <;>
    simp [Lib.bytesWorld, World.freeze, World.alloc, World.drew, -World.alloc_eq, -World.drew_eq]

def Mu.upd (μ : Mu) (b : Nat) (p : Pl) : Mu := ⟨fun x => if x = b then some p else μ x, μ.z⟩
/-- The same, with more cells frozen. -/
def Mu.updz (μ : Mu) (b : Nat) (p : Pl) (z : Nat → Nat → Option Value) : Mu := ⟨fun x => if x = b then some p else μ x, z⟩
theorem Mu.updz_other {μ : Mu} {b c : Nat} {p : Pl} {z : Nat → Nat → Option Value} (h : c ≠ b) : Mu.updz μ b p z c = μ c := by simp [Mu.updz, h]
theorem Mu.le_upd {μ : Mu} {b : Nat} {p : Pl} (h : μ b = none) : Mu.le μ (Mu.upd μ b p) := by
  refine ⟨fun x q hx => ?_, fun _ _ _ h => h⟩
  unfold Mu.upd
  by_cases e : x = b
  · subst e; rw [h] at hx; cases hx
  · simp only [if_neg e]; exact hx
theorem Mu.upd_same (μ : Mu) (b : Nat) (p : Pl) : Mu.upd μ b p b = some p := by simp [Mu.upd]
theorem Mu.upd_other {μ : Mu} {b c : Nat} {p : Pl} (h : c ≠ b) : Mu.upd μ b p c = μ c := by simp [Mu.upd, h]

section
variable {P : Program} {μ : Mu} {base : Nat} {w : World}

/-- A new block of the heap for a new block of the world. -/
theorem sim_new {g : Gm} {w' : World} {o : Obj} {b : Nat} {x : Blk} {p : Pl} (hr : Rel μ base g w) (hg : Grow w w' o) (hb : μ b = none) (hpc : p.c = w.heap.size)
    (hx : BR (Mu.upd μ b p) base w' p x) : Sim μ base g w (Mu.upd μ b p) (fun c => if c = b then some x else g c) w' := by
  have hle := Mu.le_upd (p := p) hb
  refine ⟨hle, ⟨by have := hr.size; have := hg.size; omega, fun c q y hc hy => ?_, fun c c' q q' y y' hc hc' hy hy' hne ho => ?_, fun c i a hc => ?_⟩, ⟨hg.os, hg.tape, hg.output, by have := hg.size; omega, fun c hc _ => hg.old c hc⟩, fun c q y hc hy => ?_, fun _ _ _ h => .inl h⟩
  · by_cases e : c = b
    · subst e
      rw [Mu.upd_same] at hc
      simp at hc hy; subst hc; subst hy; exact hx
    · rw [Mu.upd_other e] at hc
      simp only [if_neg e] at hy
      have := hr.blk c q y hc hy
      exact this.keep hle (hg.old _ this.lt)
  · by_cases e : c = b
    · subst e
      have e' : c' ≠ c := fun h => hne h.symm
      rw [Mu.upd_same] at hc; rw [Mu.upd_other e'] at hc'
      simp at hc; subst hc
      simp only [if_neg e'] at hy'
      have := (hr.blk c' q' y' hc' hy').lt
      omega
    · rw [Mu.upd_other e] at hc
      simp only [if_neg e] at hy
      have h1 := (hr.blk c q y hc hy).lt
      by_cases e' : c' = b
      · subst e'
        rw [Mu.upd_same] at hc'
        simp at hc'; subst hc'
        omega
      · rw [Mu.upd_other e'] at hc'
        simp only [if_neg e'] at hy'
        exact hr.inj c c' q q' y y' hc hc' hy hy' hne ho
  · obtain ⟨⟨arr, e, fr, h1, h3⟩, h2⟩ := hr.frz c i a hc
    have hlt := (Array.getElem?_eq_some_iff.1 h1).1
    refine ⟨⟨arr, e, fr, (hg.old c hlt).trans h1, h3⟩, fun b' p' x' hb' hx' ho hcc => ?_⟩
    by_cases e : b' = b
    · subst e
      rw [Mu.upd_same] at hb'
      simp at hb'; subst hb'
      omega
    · rw [Mu.upd_other e] at hb'
      simp only [if_neg e] at hx'
      exact h2 b' p' x' hb' hx' ho hcc
  · by_cases e : c = b
    · subst e
      rw [Mu.upd_same] at hc
      simp at hc; subst hc
      exact .inl (by omega)
    · rw [Mu.upd_other e] at hc
      simp only [if_neg e] at hy
      exact .inr ⟨c, q, y, hc, hy, id, rfl⟩

/-- What a block that is made is like: its cells, and the world's. -/
theorem BR_cells {μ' : Mu} {w' : World} {arr : Array Value} {e : TypeId} {fr : Nat × Nat} {cs : List Value} {c : Nat} (hw : w'.heap[c]? = some (.cells arr e fr))
    (hcs : ∀ (i : Nat) (v : Value), cs[i]? = some v → ∃ v', arr[i]? = some v' ∧ VR1 μ' v v') (hb : base ≤ c) (hf : ∀ i, i < arr.size → ¬ (fr.1 ≤ i ∧ i < fr.2)) :
    BR μ' base w' ⟨c, 0, arr.size⟩ (.cells cs false) :=
  ⟨arr, e, fr, hw, rfl, fun i v h => by simpa using hcs i v h, fun _ => ⟨hb, hf, fun _ => rfl⟩⟩

theorem flat_zero {zs : List Value} (c : Nat) (sz : Nat) (hsz : zs.length = sz) (i : Nat) (hi : i < c * sz) :
    (List.replicate c zs).flatten[i]? = zs[i % sz]? := by
  induction c generalizing i with
  | zero => omega
  | succ c ih =>
    rw [List.replicate_succ, List.flatten_cons, List.getElem?_append]
    split
    · rename_i h; rw [Nat.mod_eq_of_lt (by omega)]
    · rename_i h
      have hlt : i - zs.length < c * sz := by rw [Nat.succ_mul] at hi; omega
      rw [ih (i - zs.length) hlt, hsz]
      rw [hsz] at h
      congr 1
      rw [Nat.mod_eq_sub_mod (a := i) (by omega)]
theorem flat_len {zs : List Value} (c : Nat) : (List.replicate c zs).flatten.length = c * zs.length := by
  induction c with
  | zero => simp
  | succ c ih => rw [List.replicate_succ, List.flatten_cons, List.length_append, ih, Nat.succ_mul]; omega

/-- The zeroes of a new row, as the model lays them. -/
theorem zero_row (z : Array Value) (n : Nat) (hz : 0 < z.size) : ((Array.range (n * z.size)).map (z[· % z.size]!)).toList = (List.replicate n z.toList).flatten := by
  apply List.ext_getElem?
  intro i
  by_cases hi : i < n * z.size
  · rw [flat_zero n z.size (by simp) i hi]
    have hm : i % z.size < z.size := Nat.mod_lt _ hz
    simp [hi, hm]
  · rw [List.getElem?_eq_none (by simp; omega), List.getElem?_eq_none (by rw [flat_len]; simp; omega)]

theorem range_none {α : Type} (f : Nat → α) : (Array.range 0).map f = #[] := Array.ext' (by simp)

theorem all2_flat {zs zs' : List Value} (h : All2 (VR1 μ) zs zs') : ∀ c, All2 (VR1 μ) (List.replicate c zs).flatten (List.replicate c zs').flatten
  | 0 => by simpa using All2.nil
  | c + 1 => by rw [List.replicate_succ, List.replicate_succ, List.flatten_cons, List.flatten_cons]; exact h.append (all2_flat h c)

/-- EACH OPERATION THAT MAKES A BLOCK. -/
theorem simN {o : Oper} {ρ ρ' : Operand → Value} {x : Blk} {f : Nat → Value} {g : Gm} (hk : kindOf P o.op = .N) (h : stepN P ρ o = some (x, f)) (hr : OpR μ ρ ρ' o.op.operands.toList)
    (hrel : Rel μ base g w) {b : Nat} (hb : μ b = none) :
    ∃ v' w' p, (execOp ρ' o).run P w = .ok (.value v') w' ∧ VR (Mu.upd μ b p) (f b) v' ∧ Sim μ base g w (Mu.upd μ b p) (fun c => if c = b then some x else g c) w' := by
  have hbase := hrel.size
  obtain ⟨dst, op, ty, pos, after, guard⟩ := o
  unfold OpR at hr
  cases op <;> first | (simp [stepN] at h; done) | skip
  all_goals simp only [stepN] at h
  all_goals simp only [Op.operands] at hr
  all_goals simp only [execOp]
  case alloc t =>
    split at h
    · rename_i z hz
      simp only [Option.some.injEq, Prod.mk.injEq] at h
      obtain ⟨rfl, rfl⟩ := h
      obtain ⟨hzr, hzp⟩ := zeroA_run hz w
      refine ⟨_, w.alloc (.cells z.cells t), ⟨w.heap.size, 0, z.cells.size⟩, ?_, .zero (.ptr (Mu.upd_same _ _ _)), ?_⟩
      · simp [Instr.alloc, hzr, newVar, newRow]
      · refine sim_new hrel (grow_alloc w _) hb rfl (BR_cells (grow_alloc w _).new (fun i v hi => ?_) hbase (by intro i _; simp))
        have := (zero_cells (μ := Mu.upd μ b ⟨w.heap.size, 0, z.cells.size⟩) hzp).2 i v hi
        simpa using this
    · cases h
  case box t y =>
    split at h
    · rename_i hone
      simp only [Option.some.injEq, Prod.mk.injEq] at h
      obtain ⟨rfl, rfl⟩ := h
      have hc := (hr y (by simp)).cells hone
      refine ⟨_, w.alloc (.cells (ρ' y).cells t), ⟨w.heap.size, 0, (ρ' y).cells.size⟩, ?_, .zero (.ptr (Mu.upd_same _ _ _)), ?_⟩
      · simp [Instr.box, newVar, newRow]
      · refine sim_new hrel (grow_alloc w _) hb rfl (BR_cells (grow_alloc w _).new (fun i v hi => ?_) hbase (by intro i _; simp))
        obtain ⟨v', h1, h2⟩ := hc.2 i v hi
        exact ⟨v', by simpa using h1, h2.mono (Mu.le_upd hb)⟩
    · cases h
  case buildSlice t n parts =>
    split at h
    · rename_i e hu
      split at h
      · rename_i z k hz hsz
        split at h
        · rename_i hc
          split at h
          · rename_i cs hf
            split at h
            · rename_i hone
              simp only [Option.some.injEq, Prod.mk.injEq] at h
              obtain ⟨rfl, rfl⟩ := h
              obtain ⟨hzr, hzp⟩ := zeroA_run hz w
              have hp : All2 (fun x y : Nat × Value => x.1 = y.1 ∧ VR μ x.2 y.2) (parts.toList.map fun (i, x) => (i, ρ x)) (parts.map fun (i, x) => (i, ρ' x)).toList :=
                parts_rel fun x hx => hr x (by simpa using hx)
              have hrow := zero_row z.cells n (by omega)
              rw [hc.1] at hrow
              have hcells : All2 (VR1 μ) (List.replicate n z.cells.toList).flatten ((Array.range (n * (k + 1))).map (z.cells[· % (k + 1)]!)).toList := by
                rw [hrow]; exact all2_flat (zero_cells hzp) n
              obtain ⟨cs', h1, h2⟩ := fill_run _ _ _ _ _ cs hf hcells hp (parts_one (fun x hx => hr x (by simpa using hx)) hc.2.2)
              refine ⟨_, w.alloc (.cells cs' e), ⟨w.heap.size, 0, cs'.size⟩, ?_, .zero (.slice (n := n) (k := n) (k' := n) (Mu.upd_same _ _ _) (Nat.le_refl _) (.inr ⟨rfl, ?_⟩)), ?_⟩
              · have hbig : ¬ (n * (k + 1) > 2 ^ 24) := by have := hc.2.1; omega
                have hbig' : ¬ (16777216 < n * (k + 1)) := by omega
                by_cases h0 : n * (k + 1) = 0
                · rw [h0, range_none] at h1
                  simp only [Array.toList_map] at h1
                  simp [Instr.buildSlice, run_underlying hu, szA_run hsz, h0, range_none, h1, newRow]
                · rw [← hc.1] at h1
                  simp only [Array.toList_map] at h1
                  rw [hc.1] at h1
                  simp [Instr.buildSlice, run_underlying hu, szA_run hsz, hbig', h0, hzr, hc.1, h1, newRow]
              · have := hc.2.1
                have : n ≤ 16777216 := Nat.le_trans (Nat.le_mul_of_pos_right n (by omega)) this
                unfold UNK0; omega
              · refine sim_new hrel (grow_alloc w _) hb rfl (BR_cells (grow_alloc w _).new (fun i v hi => ?_) hbase (by intro i _; simp))
                obtain ⟨v', h3, h4⟩ := h2.2 i v hi
                exact ⟨v', by simpa using h3, h4.mono (Mu.le_upd hb)⟩
            · cases h
          · cases h
        · cases h
      · cases h
    · cases h
  case makeSlice t l c =>
    split at h
    · rename_i e hu
      split at h
      · rename_i z i kl l0 kc c0 hz hi hl hcc
        split at h
        · rename_i hc
          simp only [Option.some.injEq, Prod.mk.injEq] at h
          obtain ⟨rfl, rfl⟩ := h
          obtain ⟨hzr, hzp⟩ := zeroA_run hz w
          have h1 := (hr l (by simp)); rw [hl] at h1
          have h1 := h1.inv_int
          have h2 := (hr c (by simp)); rw [hcc] at h2
          have h2 := h2.inv_int
          obtain ⟨hz1, hz2, hl0, hlc, hc62, hby⟩ := hc
          have hwl : IntKind.i64.wrap l0 = l0 := IntWalk.i64_in _ (by omega)
          have hwc : IntKind.i64.wrap c0 = c0 := IntWalk.i64_in _ (by omega)
          have hrow := zero_row z.cells c0.toNat (by omega)
          rw [hz1] at hrow
          refine ⟨_, w.alloc (.cells ((Array.range (c0.toNat * i.size)).map (z.cells[· % i.size]!)) e), ⟨w.heap.size, 0, ((Array.range (c0.toNat * i.size)).map (z.cells[· % i.size]!)).size⟩, ?_,
            .zero (.slice (n := l0.toNat) (k := c0.toNat) (k' := c0.toNat) (Mu.upd_same _ _ _) (by omega) (.inr ⟨rfl, by unfold UNK0; omega⟩)), ?_⟩
          · have hb1 : ¬ (c0 < 0) := by omega
            have hb2 : ¬ ((i.bytes : Int) * c0 > 281474976710656) := by omega
            have hb3 : ¬ (l0 < 0) := by omega
            have hb4 : ¬ (l0 > c0) := by omega
            have hb5 : ¬ (c0 < l0) := by omega
            have hb6 : ¬ (281474976710656 < (i.bytes : Int) * c0) := by omega
            by_cases h0 : c0.toNat * i.size = 0
            · simp [Instr.makeSlice, run_underlying hu, h1, h2, asInt, asIntOf, typeInfo, hi, hwl, hwc, hb1, hb3, hb5, hb6, sizeOf, h0, newRow, range_none]
            · simp [Instr.makeSlice, run_underlying hu, h1, h2, asInt, asIntOf, typeInfo, hi, hwl, hwc, hb1, hb3, hb5, hb6, sizeOf, h0, hzr, newRow, hz1]
          · refine sim_new hrel (grow_alloc w _) hb rfl (BR_cells (grow_alloc w _).new (fun j v hj => ?_) hbase (by intro i _; simp))
            have h3 := (all2_flat (zero_cells (μ := μ) hzp) c0.toNat).2 j v hj
            rw [← hrow] at h3
            obtain ⟨v', h4, h5⟩ := h3
            exact ⟨v', by rw [Array.getElem?_toList] at h4; exact h4, h5.mono (Mu.le_upd hb)⟩
        · cases h
      · cases h
    · cases h
  case makeMap t r =>
    cases r with
    | some r => simp at h
    | none =>
      simp only [Option.some.injEq, Prod.mk.injEq] at h
      obtain ⟨rfl, rfl⟩ := h
      refine ⟨_, w.alloc (.map #[] 0), ⟨w.heap.size, 0, 0⟩, ?_, .zero (.map (Mu.upd_same _ _ _)), ?_⟩
      · simp [Instr.makeMap]
      · exact sim_new hrel (grow_alloc w _) hb rfl ⟨#[], (grow_alloc w _).new, All2.nil, hbase⟩
  case convert src dst y =>
    split at h
    · rename_i e s hd hs
      split at h
      · rename_i he
        simp only [Option.some.injEq, Prod.mk.injEq] at h
        obtain ⟨rfl, rfl⟩ := h
        have hy := hr y (by simp); rw [hs] at hy
        have hy := hy.inv_string
        have hsrc : ∃ u, P.underlying src = some u := by
          simp only [kindOf] at hk
          split at hk
          · cases hk
          · rename_i e' hs' hd'; exact ⟨_, hs'⟩
          · cases hk
        obtain ⟨u, hsrc⟩ := hsrc
        have hrun := Lib.run_convert_string_bytes (P := P) w src dst e s hsrc hd he
        have hge := grownCap_ge w s.size 0 e
        refine ⟨_, Lib.bytesWorld w e s, ⟨w.heap.size, 0, (Lib.bytesCells w e s).size⟩, ?_, .zero (.slice (n := s.data.toList.length) (k := unk 1) (k' := grownCap w s.size 0 e) (Mu.upd_same _ _ _) hge (.inl ⟨UNK0_le_unk 1, ?_⟩)), ?_⟩
        · simp only [Sem.run_bind, hy, hrun, Result.andThen_ok, Sem.run_pure]
          simp
        · rw [unk_sub]
          simp only [Lib.bytesCells, Array.size_append, Array.size_map, Array.size_replicate]
          have : s.data.size = s.size := rfl
          omega
        · refine sim_new hrel (grow_bytes w e s) hb rfl (BR_cells (grow_bytes w e s).new (fun j v hj => ?_) hbase (by intro i hi; simp; omega))
          refine ⟨v, ?_, ?_⟩
          · simp only [valBytes, List.getElem?_map] at hj
            simp only [Lib.bytesCells]
            rw [Array.getElem?_append]
            cases hb : s.data.toList[j]? with
            | none => rw [hb] at hj; cases hj
            | some q =>
              rw [hb] at hj
              have hlt : j < s.data.size := by
                have := (List.getElem?_eq_some_iff.1 hb).1; simpa using this
              rw [if_pos (by simpa using hlt), Array.getElem?_map]
              rw [Array.getElem?_toList] at hb
              rw [hb]; exact hj
          · simp only [valBytes, List.getElem?_map] at hj
            cases hb : s.data.toList[j]? with
            | none => rw [hb] at hj; cases hj
            | some q => rw [hb] at hj; simp at hj; subst hj; exact .refl_plain rfl
      · cases h
    · cases h
theorem simNz {o : Oper} {ρ ρ' : Operand → Value} {x : Blk} {f : Nat → Value} {g : Gm} (hk : kindOf P o.op = .N) (h : stepN P ρ o = some (x, f)) (hr : OpR μ ρ ρ' o.op.operands.toList)
    (hrel : Rel μ base g w) {b : Nat} (hb : μ b = none) :
    ∃ v' w' p z, (execOp ρ' o).run P w = .ok (.value v') w' ∧ VR (Mu.updz μ b p z) (f b) v' ∧ Sim μ base g w (Mu.updz μ b p z) (fun c => if c = b then some x else g c) w' :=
  let ⟨v', w', p, h1, h2, h3⟩ := simN hk h hr hrel hb
  ⟨v', w', p, μ.z, h1, h2, h3⟩
end
end Go.Abs
