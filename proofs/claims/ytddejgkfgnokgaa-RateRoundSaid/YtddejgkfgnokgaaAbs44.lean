/-
  A STRUCT OF NUMBERS THAT COMES IN: its cells are numbers.
-/
import Derived.Test.YtddejgkfgnokgaaAbs43
import Derived.Test.YtddejgkfgnokgaaAbs42
namespace Go.Abs
open Go
theorem struct_ints {H : Type} {enc : TypeId × Value → H} {P : Program} {w : World} {base : Nat} {spare : Nat → Bool} {held : Bool} {fuel : Nat} {t e : TypeId} {k : IntKind} {cs : List Value} {x : DataW H × List MemPlace} {fs : Array Field}
    (ht : P.underlying t = some (.struct fs)) (hf : (fs.toList.zipIdx.all fun x => x.1.offset == x.2 && x.1.type == e) = true) (he : P.underlying e = some (.int k)) (hc : P.cellsOf e = 1)
    (h : DataW.trod enc P w base spare held fuel t cs = some x) : ∀ i, i < fs.size → ∃ n, cs[i]? = some (.int k n) := by
  obtain ⟨xs, m, _, _, hl, hxs, hp⟩ := DataW.trod_struct ht h
  intro i hi
  have h1 : fs[i]? = some fs[i] := Array.getElem?_eq_getElem hi
  have h2 : (fs[i], i) ∈ fs.toList.zipIdx := by
    rw [List.mem_iff_getElem?]
    exact ⟨i, by rw [List.getElem?_zipIdx]; simp [hi]⟩
  have h3 := List.all_eq_true.1 hf _ h2
  simp only [Bool.and_eq_true, beq_iff_eq] at h3
  have h4 := hp i fs[i] h1
  have h5 : xs[i]? = some (xs[i]'(by omega)) := List.getElem?_eq_getElem (by omega)
  rw [h3.1, h3.2, hc, h5] at h4
  obtain ⟨n, h6, _⟩ := DataW.trod_int he h4
  refine ⟨n, ?_⟩
  have h7 : ((cs.drop i).take 1)[0]? = some (.int k n) := by rw [h6]; rfl
  rw [List.getElem?_take] at h7
  simpa using h7
theorem five {α : Type} {P : α → Prop} {l : List α} (hl : l.length = 5) (h : ∀ i, i < 5 → ∃ x, l[i]? = some x ∧ P x) : ∃ a b c d e, l = [a, b, c, d, e] ∧ P a ∧ P b ∧ P c ∧ P d ∧ P e := by
  match l, hl with
  | [a, b, c, d, e], _ =>
    obtain ⟨x0, e0, p0⟩ := h 0 (by omega)
    obtain ⟨x1, e1, p1⟩ := h 1 (by omega)
    obtain ⟨x2, e2, p2⟩ := h 2 (by omega)
    obtain ⟨x3, e3, p3⟩ := h 3 (by omega)
    obtain ⟨x4, e4, p4⟩ := h 4 (by omega)
    simp at e0 e1 e2 e3 e4
    subst e0; subst e1; subst e2; subst e3; subst e4
    exact ⟨_, _, _, _, _, rfl, p0, p1, p2, p3, p4⟩
end Go.Abs
