/-
  ROWS OF BOOLS THAT COME IN.
-/
import Derived.Test.YtecdmdglkkeidaaAbs41
namespace Go.Abs
open Go Go.ChangeShapes

def boolOf {H : Type} (y : DataW H × List MemPlace) : Bool := match y.1 with | .lit (.bool b) => b | _ => false
theorem open_bools {H : Type} {enc : TypeId × Value → H} {P : Program} {w : World} {base : Nat} {spare : Nat → Bool} {held : Bool} {t e : TypeId} {fuel : Nat} {cs : List Value} {x : DataW H × List MemPlace} (ht : P.underlying t = some (.slice e)) (he : P.underlying e = some .bool) (hc : P.cellsOf e = 1) (hs : ∀ b, spare b = true)
    (h : DataW.trod enc P w base spare held fuel t cs = some x) :
    cs = [.slice none 0 0] ∨ ∃ (a : Addr) (len cap : Nat) (zs : List Bool), cs = [.slice (some a) len cap] ∧ len ≤ cap ∧ zs.length = cap ∧ (∀ i, i < zs.length → w.cell? (a.add i) = some (.bool (zs.getD i false))) := by
  rcases DataW.trod_slice ht h with h0 | ⟨a, len, cap, elems, rest, n, _, rfl, rfl, hb, hl, hm, hlen, hel, hsp, hns⟩
  · exact Or.inl h0.1
  right
  obtain ⟨hrl, hr⟩ := hsp (hs _)
  have each : ∀ i y, (elems ++ rest)[i]? = some y → w.cell? (a.add i) = some (.bool (boolOf y)) := by
    intro i y hy
    have hb' : (w.cells? base (a.add (i * P.cellsOf e)) (P.cellsOf e)).bind (DataW.trod enc P w base spare held n e) = some y := by
      by_cases hi : i < len
      · rw [hel i hi, ← hy, List.getElem?_append_left (by omega)]
      · have hi' : i - len < rest.length := by
          have := (List.getElem?_eq_some_iff.1 hy).1
          simp at this
          omega
        have := hr (i - len) (by omega)
        rw [show len + (i - len) = i by omega] at this
        rw [this, ← hy, List.getElem?_append_right (by omega), hlen]
    rw [hc, Nat.mul_one, Option.bind_eq_some_iff] at hb'
    obtain ⟨cs', hcs, hy'⟩ := hb'
    obtain ⟨m, rfl, rfl⟩ := DataW.trod_bool he hy'
    exact cell_of_cells?_one hcs
  refine ⟨a, len, cap, (elems ++ rest).map boolOf, rfl, hl, ?_, fun i hi => ?_⟩
  · simp only [List.length_map, List.length_append, hlen, hrl]; omega
  · simp only [List.length_map] at hi
    have hy : (elems ++ rest)[i]? = some ((elems ++ rest)[i]'hi) := List.getElem?_eq_getElem hi
    have e : ((elems ++ rest).map boolOf).getD i false = boolOf ((elems ++ rest)[i]'hi) := by rw [List.getD, List.getElem?_map, hy]; rfl
    rw [each i _ hy, e]
theorem in_bools {base : Nat} {w : World} {a : Addr} {zs : List Bool} (hne : 0 < zs.length) (hc : ∀ i, i < zs.length → w.cell? (a.add i) = some (.bool (zs.getD i false))) :
    a.spot = none ∧ ∃ p : Pl, p.c = a.block ∧ p.s = a.off ∧ a.off + zs.length ≤ p.N ∧ InOk base w (p, some (.row (.bools zs) true)) := by
  have h0 := hc 0 hne
  rw [show a.add 0 = a from rfl] at h0
  unfold World.cell? at h0
  split at h0
  case h_2 => cases h0
  rename_i arr e fr hb
  have hb : w.heap[a.block]? = some (.cells arr e fr) := hb
  have hs : a.spot = none := by
    split at h0
    · cases h0
    · rename_i hs
      have hs : ¬ a.spot.isSome = true := hs
      simpa using hs
  have each : ∀ i, i < zs.length → arr[a.off + i]? = some (.bool (zs.getD i false)) := by
    intro i hi
    have h1 := hc i hi
    have ha : a.add i = ⟨a.block, a.off + i, none⟩ := by
      unfold Addr.add
      split
      · rename_i e
        subst e
        obtain ⟨x, y, z⟩ := a
        simp only at hs
        subst hs; rfl
      · rfl
    rw [ha] at h1
    unfold World.cell? at h1
    simp only [hb] at h1
    exact h1
  refine ⟨hs, ⟨a.block, a.off, arr.size⟩, rfl, rfl, ?_, fun b hb' => ?_⟩
  · have := each (zs.length - 1) (by omega)
    have := (Array.getElem?_eq_some_iff.1 this).1
    show a.off + zs.length ≤ arr.size
    omega
  · simp only [Option.some.injEq] at hb'
    subst hb'
    refine ⟨rfl, fun μ => ⟨arr, e, fr, hb, rfl, fun i v hv => ?_, fun h => by cases h⟩⟩
    have hv : (zs.map Value.bool)[i]? = some v := hv
    rw [List.getElem?_map] at hv
    cases hz : zs[i]? with
    | none => rw [hz] at hv; cases hv
    | some z =>
      rw [hz] at hv
      simp only [Option.map_some, Option.some.injEq] at hv
      subst hv
      have hi := (List.getElem?_eq_some_iff.1 hz).1
      refine ⟨.bool z, ?_, .zero (.plain rfl)⟩
      have h2 := each i hi
      rw [List.getD_eq_getElem?_getD, hz] at h2
      exact h2
end Go.Abs
