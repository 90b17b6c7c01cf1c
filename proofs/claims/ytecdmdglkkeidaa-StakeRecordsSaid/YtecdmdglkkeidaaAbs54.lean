/-
  SLICES THAT COME IN, in three kinds: none at all, an empty one, a row.
-/
import Derived.Test.YtecdmdglkkeidaaAbs40
import Derived.Test.YtecdmdglkkeidaaAbs41
import Derived.Test.YtecdmdglkkeidaaAbs42
import Derived.Test.YtecdmdglkkeidaaAbs51
import Derived.SliceStrings
namespace Go.Abs
open Go Go.ChangeShapes Go.WideShapes Go.RowKit

inductive SrcI where
  | nil
  | empty
  | row (n : Nat) (r : Row)
noncomputable def SrcI.arg (j : Nat) : SrcI → Value
  | .nil => .slice none 0 0
  | .empty => .slice (some ⟨j, 0, none⟩) 0 0
  | .row n r => mk (.slice (some ⟨j, 0, none⟩) n (unk r.esz))
noncomputable def SrcI.blk : SrcI → Option Blk
  | .row _ r => some (.row r true)
  | _ => none
def SrcI.Ok (x : SrcI) (Q : Nat → Row → Prop) : Prop := match x with
  | .row n r => Q n r
  | _ => True
/-- What a slice's cells are. -/
def CellsIn (w : World) (v : Value) (Q : Nat → Row → Prop) : Prop :=
  v = .slice none 0 0 ∨ ∃ (a : Addr) (len cap : Nat) (r : Row), v = .slice (some a) len cap ∧ len ≤ cap ∧ r.cells.length = cap * r.esz ∧ (∀ i c, r.cells[i]? = some c → w.cell? (a.add i) = some c) ∧ Q len r

theorem row_plain (r : Row) : ∀ c ∈ r.cells, plain1 c = true := by
  intro c h
  cases r with
  | ints k xs => obtain ⟨x, _, rfl⟩ := List.mem_map.1 h; rfl
  | bools xs => obtain ⟨x, _, rfl⟩ := List.mem_map.1 h; rfl
  | strs xs => obtain ⟨x, _, rfl⟩ := List.mem_map.1 h; rfl
  | pairs xs =>
    obtain ⟨x, _, hx⟩ := List.mem_flatMap.1 h
    rcases List.mem_cons.1 hx with rfl | hx
    · rfl
    · rw [List.mem_singleton.1 hx]; rfl
theorem in_row {base : Nat} {w : World} {a : Addr} {r : Row} (hne : 0 < r.cells.length) (hc : ∀ i c, r.cells[i]? = some c → w.cell? (a.add i) = some c) :
    a.spot = none ∧ ∃ p : Pl, p.c = a.block ∧ p.s = a.off ∧ a.off + r.cells.length ≤ p.N ∧ InOk base w (p, some (.row r true)) := by
  have h0 := hc 0 _ (List.getElem?_eq_getElem hne)
  rw [show a.add 0 = a from rfl] at h0
  unfold World.cell? at h0
  split at h0
  case h_2 => cases h0
  rename_i arr e fr hb
  have hb : w.heap[a.block]? = some (.cells arr e fr) := hb
  have hs : a.spot = none := by
    split at h0
    · cases h0
    · rename_i hs
      have hs : ¬ a.spot.isSome = true := hs
      simpa using hs
  have each : ∀ i c, r.cells[i]? = some c → arr[a.off + i]? = some c := by
    intro i c hi
    have h1 := hc i c hi
    have ha : a.add i = ⟨a.block, a.off + i, none⟩ := by
      unfold Addr.add
      split
      · rename_i e
        subst e
        obtain ⟨x, y, z⟩ := a
        simp only at hs
        subst hs; rfl
      · rfl
    rw [ha] at h1
    unfold World.cell? at h1
    simp only [hb] at h1
    exact h1
  refine ⟨hs, ⟨a.block, a.off, arr.size⟩, rfl, rfl, ?_, fun b hb' => ?_⟩
  · have := each (r.cells.length - 1) _ (List.getElem?_eq_getElem (by omega))
    have := (Array.getElem?_eq_some_iff.1 this).1
    show a.off + r.cells.length ≤ arr.size
    omega
  · simp only [Option.some.injEq] at hb'
    subst hb'
    refine ⟨rfl, fun μ => ⟨arr, e, fr, hb, rfl, fun i v hv => ?_, fun h => by cases h⟩⟩
    exact ⟨v, each i v hv, .refl_plain (row_plain r v (List.mem_of_getElem? hv))⟩
theorem esz_pos (r : Row) : 0 < r.esz := by cases r <;> exact Nat.le_of_ble_eq_true rfl
theorem src_in {w : World} {v : Value} {Q : Nat → Row → Prop} (h : CellsIn w v Q) : ∃ (x : SrcI) (p : Pl), x.Ok Q ∧ (∀ (μ : Mu) j, μ j = some p → VR μ (x.arg j) v) ∧ InOk w.heap.size w (p, x.blk) := by
  have hn : ∀ (p : Pl), InOk w.heap.size w (p, none) := fun p b hb => by cases hb
  rcases h with rfl | ⟨a, len, cap, r, rfl, hl, hlen, hc, hq⟩
  · exact ⟨.nil, ⟨0, 0, 0⟩, trivial, fun _ _ _ => .plain1 rfl, hn _⟩
  · by_cases hne : 0 < r.cells.length
    · obtain ⟨hs, p, hpc, hps, hN, hok⟩ := in_row (base := w.heap.size) hne hc
      obtain ⟨ab, ao, asp⟩ := a
      obtain ⟨pc, ps, pN⟩ := p
      simp only at hs hpc hps hN
      subst hs; subst hpc; subst hps
      refine ⟨.row len r, _, hq, fun μ j hj => ?_, hok⟩
      have hv : VR0 μ (.slice (some ⟨j, 0, none⟩) len (unk r.esz)) (.slice (some ⟨pc, 0 + ps, none⟩) len cap) :=
        VR0.slice (p := ⟨pc, ps, pN⟩) hj hl (.inl ⟨by unfold unk UNK0; omega, by
          show 0 + ps + cap * (unk r.esz - UNK0) ≤ pN
          have : unk r.esz - UNK0 = r.esz := by unfold unk UNK0; omega
          rw [this]; omega⟩)
      rw [Nat.zero_add] at hv
      exact .zero (.mark hv rfl)
    · have h2 : cap = 0 := by
        have := esz_pos r
        rcases Nat.eq_zero_or_pos cap with h | h
        · exact h
        · have := Nat.mul_pos h this
          omega
      have h3 : len = 0 := by omega
      subst h2; subst h3
      exact ⟨.empty, ⟨0, 0, 0⟩, trivial, fun μ j hj => .zero (VR0.slice0 hj (.inr rfl)), hn _⟩

section
variable {H : Type} {enc : TypeId × Value → H} {P : Program} {W : World} {t e : TypeId} {v : Value} {d : DataW H} {ps : List MemPlace} {b0 : Nat}
theorem src_ints {k : IntKind} (ht : P.underlying t = some (.slice e)) (he : P.underlying e = some (.int k)) (hc : P.cellsOf e = 1) (hval : Value.okWide P W .any b0 t v) (hd : DataW.Trod enc P W 0 (fun _ => true) true t v d ps) :
    CellsIn W v fun n r => ∃ zs, r = .ints k zs ∧ n ≤ zs.length ∧ ∀ z ∈ zs, (Lit.int k z).wf = true := by
  obtain ⟨s0, len0, cap0, rfl⟩ := okWide_slice ht hval
  obtain ⟨fuel, hf⟩ := hd
  rcases open_ints ht he hc hf with ⟨hcs, _⟩ | ⟨a, len, cap, zs, hcs, _, hl, _, hz, _, hcell, hwz⟩
  · simp [Value.cells] at hcs
    obtain ⟨rfl, rfl, rfl⟩ := hcs
    exact Or.inl rfl
  · simp [Value.cells] at hcs
    obtain ⟨rfl, rfl, rfl⟩ := hcs
    have hz : zs.length = cap0 := by simpa using hz
    refine Or.inr ⟨a, _, _, .ints k zs, rfl, hl, ?_, fun i c hi => ?_, zs, rfl, by omega, hwz⟩
    · show (zs.map (Value.int k)).length = cap0 * 1
      rw [List.length_map, hz, Nat.mul_one]
    · have hi : (zs.map (Value.int k))[i]? = some c := hi
      rw [List.getElem?_map] at hi
      cases h : zs[i]? with
      | none => rw [h] at hi; cases hi
      | some z =>
        rw [h] at hi; simp at hi; subst hi
        rw [hcell i (List.getElem?_eq_some_iff.1 h).1, List.getD_eq_getElem?_getD, h]; rfl
theorem src_bools (ht : P.underlying t = some (.slice e)) (he : P.underlying e = some .bool) (hc : P.cellsOf e = 1) (hval : Value.okWide P W .any b0 t v) (hd : DataW.Trod enc P W 0 (fun _ => true) true t v d ps) :
    CellsIn W v fun n r => ∃ zs, r = .bools zs ∧ n ≤ zs.length := by
  obtain ⟨s0, len0, cap0, rfl⟩ := okWide_slice ht hval
  obtain ⟨fuel, hf⟩ := hd
  rcases open_bools ht he hc (fun _ => rfl) hf with hcs | ⟨a, len, cap, zs, hcs, hl, hz, hcell⟩
  · simp [Value.cells] at hcs
    obtain ⟨rfl, rfl, rfl⟩ := hcs
    exact Or.inl rfl
  · simp [Value.cells] at hcs
    obtain ⟨rfl, rfl, rfl⟩ := hcs
    refine Or.inr ⟨a, _, _, .bools zs, rfl, hl, ?_, fun i c hi => ?_, zs, rfl, by omega⟩
    · show (zs.map Value.bool).length = cap0 * 1
      rw [List.length_map, hz, Nat.mul_one]
    · have hi : (zs.map Value.bool)[i]? = some c := hi
      rw [List.getElem?_map] at hi
      cases h : zs[i]? with
      | none => rw [h] at hi; cases hi
      | some z =>
        rw [h] at hi; simp at hi; subst hi
        rw [hcell i (List.getElem?_eq_some_iff.1 h).1, List.getD_eq_getElem?_getD, h]; rfl
theorem src_strs (ht : P.underlying t = some (.slice e)) (he : P.underlying e = some .string) (hc : P.cellsOf e = 1) (hval : Value.okWide P W .any b0 t v) (hd : DataW.Trod enc P W 0 (fun _ => true) true t v d ps) :
    CellsIn W v fun n r => ∃ zs, r = .strs zs ∧ n ≤ zs.length ∧ ∀ z ∈ zs, z.size ≤ maxLen := by
  obtain ⟨s0, len0, cap0, rfl⟩ := okWide_slice ht hval
  obtain ⟨fuel, hf⟩ := hd
  rcases open_strings ht he hc hf with ⟨hcs, _⟩ | ⟨a, len, cap, zs, hcs, _, hl, _, hz, _, hcell, hwz⟩
  · simp [Value.cells] at hcs
    obtain ⟨rfl, rfl, rfl⟩ := hcs
    exact Or.inl rfl
  · simp [Value.cells] at hcs
    obtain ⟨rfl, rfl, rfl⟩ := hcs
    have hz : zs.length = cap0 := by simpa using hz
    refine Or.inr ⟨a, _, _, .strs zs, rfl, hl, ?_, fun i c hi => ?_, zs, rfl, by omega, hwz⟩
    · show (zs.map Value.string).length = cap0 * 1
      rw [List.length_map, hz, Nat.mul_one]
    · have hi : (zs.map Value.string)[i]? = some c := hi
      rw [List.getElem?_map] at hi
      cases h : zs[i]? with
      | none => rw [h] at hi; cases hi
      | some z =>
        rw [h] at hi; simp at hi; subst hi
        rw [hcell i (List.getElem?_eq_some_iff.1 h).1, List.getD_eq_getElem?_getD, h]; rfl
end
section
variable {H : Type} {enc : TypeId × Value → H} {P : Program} {w : World} {base : Nat} {spare : Nat → Bool} {held : Bool}
theorem trodAll_one' {t0 : TypeId} {args : Array Value} {ds : List (DataW H)} {ps : List MemPlace} (h : DataW.TrodAll enc P w base spare held [t0] args.toList ds ps) :
    ∃ v0 d0 p0, args = #[v0] ∧ ds = [d0] ∧ ps = p0 ++ [] ∧ DataW.Trod enc P w base spare held t0 v0 d0 p0 := by
  obtain ⟨v0, r0, d0, s0, p0, q0, e0, rfl, rfl, g0, k0⟩ := trodAll_cons h
  obtain ⟨rfl, rfl, rfl⟩ := trodAll_nil k0
  exact ⟨v0, d0, p0, Array.toList_inj.1 e0, rfl, rfl, g0⟩
theorem trodAll_two' {t0 t1 : TypeId} {args : Array Value} {ds : List (DataW H)} {ps : List MemPlace} (h : DataW.TrodAll enc P w base spare held [t0, t1] args.toList ds ps) :
    ∃ v0 v1 d0 d1 p0 p1, args = #[v0, v1] ∧ ds = [d0, d1] ∧ ps = p0 ++ p1 ++ [] ∧ DataW.Trod enc P w base spare held t0 v0 d0 p0 ∧ DataW.Trod enc P w base spare held t1 v1 d1 p1 := by
  obtain ⟨v0, r0, d0, s0, p0, q0, e0, rfl, rfl, g0, k0⟩ := trodAll_cons h
  obtain ⟨v1, r1, d1, s1, p1, q1, rfl, rfl, rfl, g1, k1⟩ := trodAll_cons k0
  obtain ⟨rfl, rfl, rfl⟩ := trodAll_nil k1
  exact ⟨v0, v1, d0, d1, p0, p1, Array.toList_inj.1 e0, rfl, by simp only [List.append_assoc], g0, g1⟩
theorem trodAll_three' {t0 t1 t2 : TypeId} {args : Array Value} {ds : List (DataW H)} {ps : List MemPlace} (h : DataW.TrodAll enc P w base spare held [t0, t1, t2] args.toList ds ps) :
    ∃ v0 v1 v2 d0 d1 d2 p0 p1 p2, args = #[v0, v1, v2] ∧ ds = [d0, d1, d2] ∧ ps = p0 ++ p1 ++ p2 ++ [] ∧ DataW.Trod enc P w base spare held t0 v0 d0 p0 ∧ DataW.Trod enc P w base spare held t1 v1 d1 p1 ∧ DataW.Trod enc P w base spare held t2 v2 d2 p2 := by
  obtain ⟨v0, r0, d0, s0, p0, q0, e0, rfl, rfl, g0, k0⟩ := trodAll_cons h
  obtain ⟨v1, r1, d1, s1, p1, q1, rfl, rfl, rfl, g1, k1⟩ := trodAll_cons k0
  obtain ⟨v2, r2, d2, s2, p2, q2, rfl, rfl, rfl, g2, k2⟩ := trodAll_cons k1
  obtain ⟨rfl, rfl, rfl⟩ := trodAll_nil k2
  exact ⟨v0, v1, v2, d0, d1, d2, p0, p1, p2, Array.toList_inj.1 e0, rfl, by simp only [List.append_assoc], g0, g1, g2⟩
theorem trodAll_four' {t0 t1 t2 t3 : TypeId} {args : Array Value} {ds : List (DataW H)} {ps : List MemPlace} (h : DataW.TrodAll enc P w base spare held [t0, t1, t2, t3] args.toList ds ps) :
    ∃ v0 v1 v2 v3 d0 d1 d2 d3 p0 p1 p2 p3, args = #[v0, v1, v2, v3] ∧ ds = [d0, d1, d2, d3] ∧ ps = p0 ++ p1 ++ p2 ++ p3 ++ [] ∧ DataW.Trod enc P w base spare held t0 v0 d0 p0 ∧ DataW.Trod enc P w base spare held t1 v1 d1 p1 ∧ DataW.Trod enc P w base spare held t2 v2 d2 p2 ∧ DataW.Trod enc P w base spare held t3 v3 d3 p3 := by
  obtain ⟨v0, r0, d0, s0, p0, q0, e0, rfl, rfl, g0, k0⟩ := trodAll_cons h
  obtain ⟨v1, r1, d1, s1, p1, q1, rfl, rfl, rfl, g1, k1⟩ := trodAll_cons k0
  obtain ⟨v2, r2, d2, s2, p2, q2, rfl, rfl, rfl, g2, k2⟩ := trodAll_cons k1
  obtain ⟨v3, r3, d3, s3, p3, q3, rfl, rfl, rfl, g3, k3⟩ := trodAll_cons k2
  obtain ⟨rfl, rfl, rfl⟩ := trodAll_nil k3
  exact ⟨v0, v1, v2, v3, d0, d1, d2, d3, p0, p1, p2, p3, Array.toList_inj.1 e0, rfl, by simp only [List.append_assoc], g0, g1, g2, g3⟩
theorem trodAll_five' {t0 t1 t2 t3 t4 : TypeId} {args : Array Value} {ds : List (DataW H)} {ps : List MemPlace} (h : DataW.TrodAll enc P w base spare held [t0, t1, t2, t3, t4] args.toList ds ps) :
    ∃ v0 v1 v2 v3 v4 d0 d1 d2 d3 d4 p0 p1 p2 p3 p4, args = #[v0, v1, v2, v3, v4] ∧ ds = [d0, d1, d2, d3, d4] ∧ ps = p0 ++ p1 ++ p2 ++ p3 ++ p4 ++ [] ∧ DataW.Trod enc P w base spare held t0 v0 d0 p0 ∧ DataW.Trod enc P w base spare held t1 v1 d1 p1 ∧ DataW.Trod enc P w base spare held t2 v2 d2 p2 ∧ DataW.Trod enc P w base spare held t3 v3 d3 p3 ∧ DataW.Trod enc P w base spare held t4 v4 d4 p4 := by
  obtain ⟨v0, r0, d0, s0, p0, q0, e0, rfl, rfl, g0, k0⟩ := trodAll_cons h
  obtain ⟨v1, r1, d1, s1, p1, q1, rfl, rfl, rfl, g1, k1⟩ := trodAll_cons k0
  obtain ⟨v2, r2, d2, s2, p2, q2, rfl, rfl, rfl, g2, k2⟩ := trodAll_cons k1
  obtain ⟨v3, r3, d3, s3, p3, q3, rfl, rfl, rfl, g3, k3⟩ := trodAll_cons k2
  obtain ⟨v4, r4, d4, s4, p4, q4, rfl, rfl, rfl, g4, k4⟩ := trodAll_cons k3
  obtain ⟨rfl, rfl, rfl⟩ := trodAll_nil k4
  exact ⟨v0, v1, v2, v3, v4, d0, d1, d2, d3, d4, p0, p1, p2, p3, p4, Array.toList_inj.1 e0, rfl, by simp only [List.append_assoc], g0, g1, g2, g3, g4⟩
theorem trodAll_six' {t0 t1 t2 t3 t4 t5 : TypeId} {args : Array Value} {ds : List (DataW H)} {ps : List MemPlace} (h : DataW.TrodAll enc P w base spare held [t0, t1, t2, t3, t4, t5] args.toList ds ps) :
    ∃ v0 v1 v2 v3 v4 v5 d0 d1 d2 d3 d4 d5 p0 p1 p2 p3 p4 p5, args = #[v0, v1, v2, v3, v4, v5] ∧ ds = [d0, d1, d2, d3, d4, d5] ∧ ps = p0 ++ p1 ++ p2 ++ p3 ++ p4 ++ p5 ++ [] ∧ DataW.Trod enc P w base spare held t0 v0 d0 p0 ∧ DataW.Trod enc P w base spare held t1 v1 d1 p1 ∧ DataW.Trod enc P w base spare held t2 v2 d2 p2 ∧ DataW.Trod enc P w base spare held t3 v3 d3 p3 ∧ DataW.Trod enc P w base spare held t4 v4 d4 p4 ∧ DataW.Trod enc P w base spare held t5 v5 d5 p5 := by
  obtain ⟨v0, r0, d0, s0, p0, q0, e0, rfl, rfl, g0, k0⟩ := trodAll_cons h
  obtain ⟨v1, r1, d1, s1, p1, q1, rfl, rfl, rfl, g1, k1⟩ := trodAll_cons k0
  obtain ⟨v2, r2, d2, s2, p2, q2, rfl, rfl, rfl, g2, k2⟩ := trodAll_cons k1
  obtain ⟨v3, r3, d3, s3, p3, q3, rfl, rfl, rfl, g3, k3⟩ := trodAll_cons k2
  obtain ⟨v4, r4, d4, s4, p4, q4, rfl, rfl, rfl, g4, k4⟩ := trodAll_cons k3
  obtain ⟨v5, r5, d5, s5, p5, q5, rfl, rfl, rfl, g5, k5⟩ := trodAll_cons k4
  obtain ⟨rfl, rfl, rfl⟩ := trodAll_nil k5
  exact ⟨v0, v1, v2, v3, v4, v5, d0, d1, d2, d3, d4, d5, p0, p1, p2, p3, p4, p5, Array.toList_inj.1 e0, rfl, by simp only [List.append_assoc], g0, g1, g2, g3, g4, g5⟩
end
/-- A law with slices that come in. -/
theorem law_in {P : Program} (hP : ProgOk P) {C : Con} (hC : ConOk P C) {call : Caller} (hcall : CallOk P call) {f : FuncId} {fn : Func} {c : Code} (hf : P.funcs[f]? = some fn) (hb : fn.body = some c) {n : Nat} {LS : Loops} {args : List Value} {W : World} {args' : Array Value} (l : List (Pl × Option Blk))
    (hin : ∀ x ∈ l, InOk W.heap.size W x) (e : lawV std P C call n LS fn c args (inH (l.map (·.2))) fun v _ => v = .bool true) (hl : All2 (VR (inMu l)) args args'.toList) :
    Calls P f args' W fun en W' => RowKit.Below W.heap.size W W' ∧ en = .returned (.bool true) :=
  law_callsF hP hC hcall hf hb (in_ro hin) e hl (in_rel (Nat.le_refl _) hin) (in_free l)
end Go.Abs
