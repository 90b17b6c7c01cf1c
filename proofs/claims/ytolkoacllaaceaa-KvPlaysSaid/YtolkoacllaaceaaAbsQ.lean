/-
  WHAT COMES IN, as immutable data: any type of numbers, texts, truth values, structs, arrays, slices.
-/
import Derived.Test.YtolkoacllaaceaaAbsP
import Derived.Test.YtolkoacllaaceaaAbs42
import Derived.ChangeBears
import Derived.OpenShut
namespace Go.Abs
open Go Go.ChangeShapes Go.WideShapes Go.RowKit

/-- A raw value of a zero's kind, in the bounds of what comes in. -/
inductive RawOk : Value → Value → Prop
  | int {k : IntKind} {n m : Int} : (Lit.int k m).wf = true → RawOk (.int k n) (.int k m)
  | str {s t : ByteArray} : t.size ≤ maxLen → RawOk (.string s) (.string t)
  | bool {a b : Bool} : RawOk (.bool a) (.bool b)
  | sl {z : Value} {xs : List Value} : xs.length ≤ maxLen → (∀ x ∈ xs, RawOk z x) → RawOk (dsl z []) (dsl z xs)
  | agg {zs us : List Value} : us.length = zs.length → (∀ (i : Nat) z u, zs[i]? = some z → us[i]? = some u → RawOk z u) → RawOk (.agg zs.toArray) (.agg us.toArray)
/-- A world's cells. -/
def zW (w : World) (c i : Nat) : Option Value :=
  match w.heap[c]? with
  | some (.cells arr _ _) => arr[i]?
  | _ => none
theorem zW_ok (w : World) : ∀ c i a, zW w c i = some a → ∃ arr e fr, w.heap[c]? = some (.cells arr e fr) ∧ arr[i]? = some a := by
  intro c i a h
  unfold zW at h
  split at h
  · rename_i arr e fr hc; exact ⟨arr, e, fr, hc, h⟩
  · cases h
theorem zW_cell {w : World} {b o : Nat} {v : Value} (h : w.cell? ⟨b, o, none⟩ = some v) : zW w b o = some v := by
  unfold World.cell? at h
  unfold zW
  split at h
  case h_2 => cases h
  rename_i arr e fr hb
  have hb : w.heap[b]? = some (.cells arr e fr) := hb
  rw [hb]
  exact h
theorem cell_spot {w : World} {a : Addr} {v : Value} (h : w.cell? a = some v) : a.spot = none := by
  unfold World.cell? at h
  split at h
  case h_2 => cases h
  split at h
  · cases h
  · rename_i hs
    have hs : ¬ a.spot.isSome = true := hs
    simpa using hs
def isScalZ : Value → Bool
  | .int .. | .string _ | .bool _ => true
  | .func (.yield 1) _ _ => true
  | _ => false
/-- A raw value that is not an aggregate. -/
theorem RawOk.norm {z u : Value} (h : RawOk z u) (hz : isScalZ z = true) : norm1 z u = u ∧ cellsN z u = [u] := by
  cases h with
  | int _ => exact ⟨rfl, rfl⟩
  | str _ => exact ⟨rfl, rfl⟩
  | bool => exact ⟨rfl, rfl⟩
  | sl _ _ =>
    rename_i z xs _ _
    have : norm1 (dsl z []) (dsl z xs) = dsl z xs := by simp [norm1, dsl, dels]
    exact ⟨this, by show [norm1 (dsl z []) (dsl z xs)] = _; rw [this]⟩
  | agg _ _ => simp [isScalZ] at hz
/-- A zero: one cell, or cells of one cell each. -/
def zCells (z : Value) : Prop := isScalZ z = true ∨ ∃ zs : List Value, z = .agg zs.toArray ∧ ∀ y ∈ zs, isScalZ y = true
theorem zCells_cells {z : Value} (h : zCells z) : ∀ y ∈ z.cells.toList, isScalZ y = true := by
  rcases h with h | ⟨zs, rfl, h⟩
  · intro y hy
    cases z with
    | agg _ => simp [isScalZ] at h
    | _ => simp [Value.cells] at hy; subst hy; exact h
  · simpa [Value.cells] using h
theorem zeroL_cells {f : TypeId → Option Value} (hf : ∀ t z, f t = some z → zCells z) : ∀ {ts : List TypeId} {l : List Value}, zeroL f ts = some l → ∀ y ∈ l, isScalZ y = true
  | [], l, h, y, hy => by simp only [zeroL, Option.some.injEq] at h; subst h; simp at hy
  | t :: r, l, h, y, hy => by
    unfold zeroL at h
    split at h
    · rename_i z l' hz hl
      simp only [Option.some.injEq] at h; subst h
      rcases List.mem_append.1 hy with hy | hy
      · exact zCells_cells (hf t z hz) y hy
      · exact zeroL_cells hf hl y hy
    · cases h
theorem zeroD_cells {P : Program} : ∀ n t z, zeroD P n t = some z → zCells z
  | 0, t, z, h => by simp [zeroD] at h
  | n + 1, t, z, h => by
    have ih := zeroD_cells (P := P) n
    unfold zeroD at h
    split at h
    · simp only [Option.some.injEq] at h; subst h; exact .inl rfl
    · simp only [Option.some.injEq] at h; subst h; exact .inl rfl
    · simp only [Option.some.injEq] at h; subst h; exact .inl rfl
    · rename_i e _
      cases he : zeroD P n e with
      | none => rw [he] at h; cases h
      | some z' =>
        rw [he] at h; simp only [Option.bind_some] at h
        split at h
        · cases h
        · simp only [Option.some.injEq] at h; subst h; exact .inl rfl
    · rename_i fs _
      cases hl : zeroL (zeroD P n) (fs.toList.map (·.type)) with
      | none => rw [hl] at h; cases h
      | some l =>
        rw [hl] at h; simp only [Option.map_some, Option.some.injEq] at h; subst h
        exact .inr ⟨l, rfl, zeroL_cells ih hl⟩
    · rename_i k e _
      cases he : zeroD P n e with
      | none => rw [he] at h; cases h
      | some z' =>
        rw [he] at h; simp only [Option.map_some, Option.some.injEq] at h; subst h
        refine .inr ⟨_, rfl, fun y hy => ?_⟩
        obtain ⟨l, hl, hy⟩ := List.mem_flatten.1 hy
        rw [List.eq_of_mem_replicate hl] at hy
        exact zCells_cells (ih e z' he) y hy
    · cases h
/-- The cells of raw values side by side. -/
theorem agg_of {zs us : List Value} (hz : ∀ y ∈ zs, isScalZ y = true) (hl : us.length = zs.length) (hu : ∀ (i : Nat) z u, zs[i]? = some z → us[i]? = some u → RawOk z u) : cellsN (.agg zs.toArray) (.agg us.toArray) = us := by
  apply List.ext_getElem?
  intro i
  show (zs.zipIdx.map fun p => norm1 p.1 (fld (.agg us.toArray) p.2))[i]? = _
  rw [List.getElem?_map, List.getElem?_zipIdx]
  cases hzi : zs[i]? with
  | none =>
    have : zs.length ≤ i := List.getElem?_eq_none_iff.1 hzi
    rw [List.getElem?_eq_none (by omega)]; rfl
  | some z =>
    have hi := (List.getElem?_eq_some_iff.1 hzi).1
    have hui : us[i]? = some us[i] := List.getElem?_eq_getElem (by omega)
    rw [hui]
    have hf : fld (.agg us.toArray) i = us[i] := by simp [fld, Value.cells, Array.getD, hl, hi]
    simp only [Option.map_some, Nat.zero_add, Option.some.injEq]
    rw [hf]
    exact ((hu i z _ hzi hui).norm (hz z (List.mem_of_getElem? hzi))).1
theorem RawOk.cells {z u : Value} (h : RawOk z u) (hz : zCells z) : (cellsN z u).length = z.cells.toList.length ∧ ∀ (i : Nat) y c, z.cells.toList[i]? = some y → (cellsN z u)[i]? = some c → RawOk y c := by
  refine ⟨by rw [cellsN_len, Array.length_toList], fun i y c hy hc => ?_⟩
  rcases hz with hz | ⟨zs, rfl, hzs⟩
  · rw [(h.norm hz).2] at hc
    have hcz : z.cells.toList = [z] := by
      cases z with
      | agg _ => simp [isScalZ] at hz
      | _ => rfl
    rw [hcz] at hy
    cases i with
    | succ i => simp at hy
    | zero =>
      simp only [List.getElem?_cons_zero, Option.some.injEq] at hy hc
      subst hy; subst hc; exact h
  · generalize hg : Value.agg zs.toArray = zz at h
    cases h with
    | int _ => cases hg
    | str _ => cases hg
    | bool => cases hg
    | sl _ _ => simp [dsl] at hg
    | agg hl hu =>
      rename_i zs' us
      simp only [Value.agg.injEq] at hg
      have : zs = zs' := by simpa using congrArg Array.toList hg
      subst this
      rw [agg_of hzs hl hu] at hc
      exact hu i y c (by simpa [Value.cells] using hy) hc

section
variable {H : Type} {enc : TypeId × Value → H} {P : Program} {w : World} {base : Nat} {spare : Nat → Bool} {held : Bool}
/-- Parts side by side. -/
theorem parts_raw {n : Nat} (ih : ∀ t z, t < P.types.size → zeroD P n t = some z → ∀ {fuel : Nat} {cs : List Value} {x : DataW H × List MemPlace}, DataW.trod enc P w base spare held fuel t cs = some x → ∃ u, RawOk z u ∧ All2 (DR (zW w)) (cellsN z u) cs) :
    ∀ {ts : List TypeId} {l cs : List Value}, zeroL (zeroD P n) ts = some l → (∀ t ∈ ts, t < P.types.size) → cs.length = (ts.map P.cellsOf).sum →
      (∀ (i : Nat) t, ts[i]? = some t → ∃ fuel x, DataW.trod enc P w base spare held fuel t ((cs.drop ((ts.take i).map P.cellsOf).sum).take (P.cellsOf t)) = some x) →
      ∃ us, us.length = l.length ∧ (∀ (i : Nat) z u, l[i]? = some z → us[i]? = some u → RawOk z u) ∧ All2 (DR (zW w)) us cs
  | [], l, cs, hl, _, hc, _ => by
    simp only [zeroL, Option.some.injEq] at hl; subst hl
    have : cs = [] := List.eq_nil_of_length_eq_zero (by simpa using hc)
    subst this
    exact ⟨[], rfl, fun i z u h => by simp at h, All2.nil⟩
  | t :: ts, l, cs, hl, ht, hc, hget => by
    unfold zeroL at hl
    split at hl
    case h_2 => cases hl
    rename_i z l' hz hl'
    simp only [Option.some.injEq] at hl; subst hl
    obtain ⟨fuel, x, h0⟩ := hget 0 t rfl
    simp only [List.take_zero, List.map_nil, List.sum_nil, List.drop_zero] at h0
    obtain ⟨u, hu, hcs⟩ := ih t z (ht t List.mem_cons_self) hz h0
    simp only [List.map_cons, List.sum_cons] at hc
    obtain ⟨us, h1, h2, h3⟩ := parts_raw ih (cs := cs.drop (P.cellsOf t)) hl' (fun y hy => ht y (List.mem_cons_of_mem _ hy)) (by rw [List.length_drop]; omega) (fun i y hy => by
      obtain ⟨fuel, x, h⟩ := hget (i + 1) y (by simpa using hy)
      refine ⟨fuel, x, ?_⟩
      rw [List.drop_drop]
      simpa using h)
    obtain ⟨h4, h5⟩ := hu.cells (zeroD_cells n t z hz)
    refine ⟨cellsN z u ++ us, by rw [List.length_append, List.length_append, h4, h1], fun i y c hy hc => ?_, ?_⟩
    · rw [List.getElem?_append] at hy hc
      rw [h4] at hc
      split at hy
      · rename_i hlt; rw [if_pos hlt] at hc; exact h5 i y c hy hc
      · rename_i hlt; rw [if_neg hlt] at hc; exact h2 _ y c hy hc
    · have := hcs.append h3
      rwa [List.take_append_drop] at this
theorem zeroL_rep {f : TypeId → Option Value} {e : TypeId} {z : Value} (h : f e = some z) : ∀ k, zeroL f (List.replicate k e) = some (List.replicate k z.cells.toList).flatten
  | 0 => rfl
  | k + 1 => by
    rw [List.replicate_succ, List.replicate_succ]
    unfold zeroL
    rw [h, zeroL_rep h k]
    rfl
theorem sum_rep (P : Program) (e : TypeId) : ∀ k, ((List.replicate k e).map P.cellsOf).sum = k * P.cellsOf e
  | 0 => by simp
  | k + 1 => by rw [List.replicate_succ, List.map_cons, List.sum_cons, sum_rep P e k, Nat.succ_mul, Nat.add_comm]

theorem trod_raw (hlaid : laidOutB P = true) : ∀ n t z, t < P.types.size → zeroD P n t = some z → ∀ {fuel : Nat} {cs : List Value} {x : DataW H × List MemPlace}, DataW.trod enc P w base spare held fuel t cs = some x → ∃ u, RawOk z u ∧ All2 (DR (zW w)) (cellsN z u) cs
  | 0, t, z, _, hz, _, _, _, _ => by simp [zeroD] at hz
  | n + 1, t, z, ht, hz, fuel, cs, x, h => by
    have ih := trod_raw hlaid (n := n)
    have aggs : ∀ {l us : List Value}, (∀ y ∈ l, isScalZ y = true) → us.length = l.length → (∀ (i : Nat) z u, l[i]? = some z → us[i]? = some u → RawOk z u) → All2 (DR (zW w)) us cs → ∃ u, RawOk (.agg l.toArray) u ∧ All2 (DR (zW w)) (cellsN (.agg l.toArray) u) cs := by
      intro l us h1 h2 h3 h4
      exact ⟨.agg us.toArray, .agg h2 h3, by rw [agg_of h1 h2 h3]; exact h4⟩
    unfold zeroD at hz
    split at hz
    · rename_i k hu
      simp only [Option.some.injEq] at hz; subst hz
      obtain ⟨m, rfl, _, hw⟩ := DataW.trod_int hu h
      exact ⟨.int k m, .int hw, All2.cons (.plain rfl) All2.nil⟩
    · rename_i hu
      simp only [Option.some.injEq] at hz; subst hz
      obtain ⟨s, rfl, _, hw⟩ := DataW.trod_string hu h
      exact ⟨.string s, .str hw, All2.cons (.plain rfl) All2.nil⟩
    · rename_i hu
      simp only [Option.some.injEq] at hz; subst hz
      obtain ⟨b, rfl, _⟩ := DataW.trod_bool hu h
      exact ⟨.bool b, .bool, All2.cons (.plain rfl) All2.nil⟩
    · rename_i e hu
      cases he : zeroD P n e with
      | none => rw [he] at hz; cases hz
      | some z' =>
        rw [he] at hz; simp only [Option.bind_some] at hz
        split at hz
        · cases hz
        rename_i hpos
        simp only [Option.some.injEq] at hz; subst hz
        have slice : ∀ {xs : List Value} {v' : Value}, xs.length ≤ maxLen → (∀ y ∈ xs, RawOk z' y) → DR (zW w) (dsl z' xs) v' → ∃ u, RawOk (dsl z' []) u ∧ All2 (DR (zW w)) (cellsN (dsl z' []) u) [v'] := by
          intro xs v' h1 h2 h3
          have h4 : RawOk (dsl z' []) (dsl z' xs) := .sl h1 h2
          exact ⟨_, h4, by rw [(h4.norm rfl).2]; exact All2.cons h3 All2.nil⟩
        rcases DataW.trod_slice hu h with ⟨rfl, _⟩ | ⟨a, len, cap, elems, rest, n', _, rfl, _, hb, hlen, hcap, hel, hget, _, _⟩
        · exact slice (xs := []) (by simp) (fun y hy => by simp at hy) .nil
        · have each : ∀ i, ∃ u, i < len → RawOk z' u ∧ ∃ cs', cs'.length = P.cellsOf e ∧ (∀ j, j < P.cellsOf e → w.cell? ((a.add (i * P.cellsOf e)).add j) = cs'[j]?) ∧ All2 (DR (zW w)) (cellsN z' u) cs' := by
            intro i
            by_cases hi : i < len
            · have hg := hget i hi
              rw [List.getElem?_eq_getElem (by omega), Option.bind_eq_some_iff] at hg
              obtain ⟨cs', hcs, htr⟩ := hg
              obtain ⟨u, hu1, hu2⟩ := ih e z' (kid_slice hlaid ht hu) he htr
              obtain ⟨_, h2, h3⟩ := World.cells?_some hcs
              exact ⟨u, fun _ => ⟨hu1, cs', h2, h3, hu2⟩⟩
            · exact ⟨.bool false, fun h => absurd h hi⟩
          obtain ⟨U, hU⟩ := Classical.axiomOfChoice each
          have hmem : ∀ y ∈ (List.range len).map U, RawOk z' y := by
            intro y hy
            obtain ⟨i, hi, rfl⟩ := List.mem_map.1 hy
            exact (hU i (List.mem_range.1 hi)).1
          refine slice (xs := (List.range len).map U) (by rw [List.length_map, List.length_range]; omega) hmem ?_
          rcases Nat.eq_zero_or_pos len with h0 | h0
          · subst h0; exact .nil
          · obtain ⟨_, cs0, hc1, hc2, hc3⟩ := hU 0 h0
            have hsz : z'.cells.size = P.cellsOf e := by rw [← hc1, ← hc3.1, cellsN_len]
            have hp : 0 < P.cellsOf e := by omega
            have hspot : a.spot = none := by
              have := hc2 0 hp
              rw [Nat.zero_mul, show (a.add 0).add 0 = a from rfl, List.getElem?_eq_getElem (by omega)] at this
              exact cell_spot this
            obtain ⟨ab, ao, asp⟩ := a
            simp only at hspot; subst hspot
            have hadd : ∀ m k, ((⟨ab, ao, none⟩ : Addr).add m).add k = ⟨ab, ao + (m + k), none⟩ := by
              intro m k
              unfold Addr.add
              split
              · split
                · simp_all
                · simp_all
              · split
                · simp_all
                · simp only [Addr.mk.injEq, and_true, true_and]; omega
            have key : ∀ p v, (flatN z' ((List.range len).map U))[p]? = some v → ∃ y, zW w ab (ao + p) = some y ∧ DR (zW w) v y := by
              intro p v hv
              have hlt := (List.getElem?_eq_some_iff.1 hv).1
              rw [flatN_len, List.length_map, List.length_range, hsz] at hlt
              have hq : p / P.cellsOf e < len := (Nat.div_lt_iff_lt_mul hp).2 hlt
              have hr := Nat.mod_lt p hp
              have hpq : p / P.cellsOf e * P.cellsOf e + p % P.cellsOf e = p := by
                have := Nat.div_add_mod p (P.cellsOf e)
                rw [Nat.mul_comm] at this; exact this
              have hfl := flatN_get (z := z') (xs := (List.range len).map U) (i := p / P.cellsOf e) (j := p % P.cellsOf e) (by simpa using hq) (by omega)
              rw [hsz, hpq, hv] at hfl
              have hgd : ((List.range len).map U).getD (p / P.cellsOf e) z' = U (p / P.cellsOf e) := by
                rw [List.getD_eq_getElem?_getD, List.getElem?_map, List.getElem?_range hq]; rfl
              rw [hgd] at hfl
              obtain ⟨_, cs', h1, h2, h3⟩ := hU _ hq
              obtain ⟨y, hy, hdr⟩ := h3.2 _ v hfl.symm
              have h4 := h2 _ hr
              rw [hy, hadd, hpq] at h4
              exact ⟨y, zW_cell h4, hdr⟩
            refine .sl (fun j => (zW w ab (ao + j)).getD (.bool false)) (by simp) hlen (fun p v hv => ?_) (fun p v hv => ?_)
            · obtain ⟨y, hy, _⟩ := key p v hv
              rw [hy]; rfl
            · obtain ⟨y, hy, hd⟩ := key p v hv
              simp only [hy, Option.getD_some]; exact hd
    · rename_i fs hu
      cases hl : zeroL (zeroD P n) (fs.toList.map (·.type)) with
      | none => rw [hl] at hz; cases hz
      | some l =>
        rw [hl] at hz; simp only [Option.map_some, Option.some.injEq] at hz; subst hz
        obtain ⟨xs, n', _, _, hlenc, hlen, hget⟩ := DataW.trod_struct hu h
        obtain ⟨k1, k2, k3⟩ := kid_struct hlaid ht hu
        obtain ⟨us, h1, h2, h3⟩ := parts_raw ih (cs := cs) hl (fun y hy => by
          obtain ⟨f, hf, rfl⟩ := List.mem_map.1 hy
          exact k1 f hf) (by rw [hlenc, k2, List.map_map]; rfl) (fun i y hy => by
          rw [List.getElem?_map] at hy
          cases hfi : fs.toList[i]? with
          | none => rw [hfi] at hy; cases hy
          | some f =>
            rw [hfi] at hy
            simp only [Option.map_some, Option.some.injEq] at hy; subst hy
            have hg := hget i f (by rw [← Array.getElem?_toList]; exact hfi)
            have hlt := (List.getElem?_eq_some_iff.1 hfi).1
            rw [List.getElem?_eq_getElem (by simpa [hlen] using hlt), k3 i f hfi] at hg
            refine ⟨n', xs[i]'(by simpa [hlen] using hlt), ?_⟩
            rw [← List.map_take, List.map_map]
            exact hg)
        exact aggs (zeroL_cells (fun t z h => zeroD_cells n t z h) hl) h1 h2 h3
    · rename_i k e hu
      cases he : zeroD P n e with
      | none => rw [he] at hz; cases hz
      | some z' =>
        rw [he] at hz; simp only [Option.map_some, Option.some.injEq] at hz; subst hz
        obtain ⟨xs, n', _, _, hlenc, hlen, hget⟩ := DataW.trod_array hu h
        obtain ⟨k1, k2⟩ := kid_array hlaid ht hu
        have hl := zeroL_rep he k
        obtain ⟨us, h1, h2, h3⟩ := parts_raw ih (cs := cs) hl (fun y hy => by rw [List.eq_of_mem_replicate hy]; exact k1) (by rw [hlenc, k2, sum_rep]) (fun i y hy => by
          rw [List.getElem?_replicate] at hy
          split at hy
          · rename_i hi
            simp only [Option.some.injEq] at hy; subst hy
            have hg := hget i hi
            rw [List.getElem?_eq_getElem (by omega)] at hg
            refine ⟨n', xs[i]'(by omega), ?_⟩
            rw [List.take_replicate, sum_rep, Nat.min_eq_left (by omega)]
            exact hg
          · cases hy)
        exact aggs (zeroL_cells (fun t z h => zeroD_cells n t z h) hl) h1 h2 h3
    · cases hz
/-- An argument of one cell. -/
theorem arg_one (hlaid : laidOutB P = true) {n : Nat} {t : TypeId} {z v : Value} {d : DataW H} {ps : List MemPlace} (ht : t < P.types.size) (hz : zeroD P n t = some z) (hs : isScalZ z = true) (hv : v.cells = #[v])
    (hd : DataW.Trod enc P w base spare held t v d ps) : ∃ u, RawOk z u ∧ DRa (zW w) u v := by
  obtain ⟨fuel, hf⟩ := hd
  obtain ⟨u, hu, hc⟩ := trod_raw hlaid n t z ht hz hf
  rw [(hu.norm hs).2, hv] at hc
  obtain ⟨v', l, e, r, _⟩ := hc.inv_cons
  simp only [List.cons.injEq] at e
  rw [← e.1] at r
  refine ⟨u, hu, .inl ⟨?_, r⟩⟩
  cases hu with
  | agg _ _ => simp [isScalZ] at hs
  | _ => rfl
theorem arg_slice (hlaid : laidOutB P = true) {n : Nat} {t e : TypeId} {z v : Value} {b0 : Nat} {r : Reach} {d : DataW H} {ps : List MemPlace} (ht : t < P.types.size) (hu : P.underlying t = some (.slice e)) (hz : zeroD P n t = some (dsl z [])) (hval : Value.okWide P w r b0 t v)
    (hd : DataW.Trod enc P w base spare held t v d ps) : ∃ xs, xs.length ≤ maxLen ∧ (∀ x ∈ xs, RawOk z x) ∧ DRa (zW w) (dsl z xs) v := by
  obtain ⟨a, len, cap, rfl⟩ := okWide_slice hu hval
  obtain ⟨u, h1, h2⟩ := arg_one hlaid ht hz rfl rfl hd
  generalize hg : dsl z [] = y at h1
  cases h1 with
  | int _ => simp [dsl] at hg
  | str _ => simp [dsl] at hg
  | bool => simp [dsl] at hg
  | agg _ _ => simp [dsl] at hg
  | sl h3 h4 =>
    simp [dsl] at hg
    subst hg
    exact ⟨_, h3, h4, h2⟩
end
/-- A LAW of immutable data. -/
theorem law_pf {P : Program} (hP : ProgOk P) {F : PF} {f : FuncId} {fn : Func} {c : Code} (hf : P.funcs[f]? = some fn) (hb : fn.body = some c) (hF : PFOk P f F) (hnf : F.fresh = false) {d : F.D} (hpre : F.pre d) (hres : F.res d = [.bool true]) {xs : List Value}
    (hraw : rawVs deep0 F.zs (F.args d) = some xs) {w : World} {args' : Array Value} (hl : All2 (DRa (zW w)) xs args'.toList) : Calls P f args' w fun en w' => RowKit.Below w.heap.size w w' ∧ en = .returned (.bool true) := by
  have hn := hP.name hf
  have henter : (callFunc f args').run P w = .ok (.enter f args') w := by simp [callFunc, hf, hn, hb]
  rcases hF.out (base := w.heap.size) (Nat.le_refl _) (zW_ok w) hpre hraw hl with ⟨v', w', h1, _⟩ | ⟨_, h2⟩
  · rw [henter] at h1; cases h1
  · refine h2.mono fun en w' ⟨v', he, z2, tk, ho⟩ => ⟨ho.below, ?_⟩
    have htk : tk = none := by
      cases e : tk with
      | none => rfl
      | some p => have := (ho.tok p e).1; rw [hnf] at this; cases this
    have hv := ho.val (μ := ⟨fun _ => none, z2⟩) (b := 0) rfl (by rw [htk])
    rw [hnf, hres] at hv
    have hv : VR _ (.bool true) v' := hv
    rw [he, hv.inv_bool]
end Go.Abs
