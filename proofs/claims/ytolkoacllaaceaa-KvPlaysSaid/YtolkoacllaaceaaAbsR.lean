/-
  ARGUMENTS ONE BY ONE.
-/
import Derived.Test.YtolkoacllaaceaaAbsQ
namespace Go.Abs
open Go Go.ChangeShapes Go.WideShapes Go.RowKit

section
variable {H : Type} {enc : TypeId × Value → H} {P : Program} {w : World} {base : Nat} {spare : Nat → Bool} {held : Bool}
theorem trodAll_one' {t0 : TypeId} {args : Array Value} {ds : List (DataW H)} {ps : List MemPlace} (h : DataW.TrodAll enc P w base spare held [t0] args.toList ds ps) :
    ∃ v0 d0 p0, args = #[v0] ∧ ds = [d0] ∧ ps = p0 ++ [] ∧ DataW.Trod enc P w base spare held t0 v0 d0 p0 := by
  obtain ⟨v0, r0, d0, s0, p0, q0, e0, rfl, rfl, g0, k0⟩ := trodAll_cons h
  obtain ⟨rfl, rfl, rfl⟩ := trodAll_nil k0
  exact ⟨v0, d0, p0, Array.toList_inj.1 e0, rfl, rfl, g0⟩
theorem trodAll_two' {t0 t1 : TypeId} {args : Array Value} {ds : List (DataW H)} {ps : List MemPlace} (h : DataW.TrodAll enc P w base spare held [t0, t1] args.toList ds ps) :
    ∃ v0 v1 d0 d1 p0 p1, args = #[v0, v1] ∧ ds = [d0, d1] ∧ ps = p0 ++ p1 ++ [] ∧ DataW.Trod enc P w base spare held t0 v0 d0 p0 ∧ DataW.Trod enc P w base spare held t1 v1 d1 p1 := by
  obtain ⟨v0, r0, d0, s0, p0, q0, e0, rfl, rfl, g0, k0⟩ := trodAll_cons h
  obtain ⟨v1, r1, d1, s1, p1, q1, rfl, rfl, rfl, g1, k1⟩ := trodAll_cons k0
  obtain ⟨rfl, rfl, rfl⟩ := trodAll_nil k1
  exact ⟨v0, v1, d0, d1, p0, p1, Array.toList_inj.1 e0, rfl, by simp only [List.append_assoc], g0, g1⟩
theorem trodAll_three' {t0 t1 t2 : TypeId} {args : Array Value} {ds : List (DataW H)} {ps : List MemPlace} (h : DataW.TrodAll enc P w base spare held [t0, t1, t2] args.toList ds ps) :
    ∃ v0 v1 v2 d0 d1 d2 p0 p1 p2, args = #[v0, v1, v2] ∧ ds = [d0, d1, d2] ∧ ps = p0 ++ p1 ++ p2 ++ [] ∧ DataW.Trod enc P w base spare held t0 v0 d0 p0 ∧ DataW.Trod enc P w base spare held t1 v1 d1 p1 ∧ DataW.Trod enc P w base spare held t2 v2 d2 p2 := by
  obtain ⟨v0, r0, d0, s0, p0, q0, e0, rfl, rfl, g0, k0⟩ := trodAll_cons h
  obtain ⟨v1, r1, d1, s1, p1, q1, rfl, rfl, rfl, g1, k1⟩ := trodAll_cons k0
  obtain ⟨v2, r2, d2, s2, p2, q2, rfl, rfl, rfl, g2, k2⟩ := trodAll_cons k1
  obtain ⟨rfl, rfl, rfl⟩ := trodAll_nil k2
  exact ⟨v0, v1, v2, d0, d1, d2, p0, p1, p2, Array.toList_inj.1 e0, rfl, by simp only [List.append_assoc], g0, g1, g2⟩
theorem trodAll_four' {t0 t1 t2 t3 : TypeId} {args : Array Value} {ds : List (DataW H)} {ps : List MemPlace} (h : DataW.TrodAll enc P w base spare held [t0, t1, t2, t3] args.toList ds ps) :
    ∃ v0 v1 v2 v3 d0 d1 d2 d3 p0 p1 p2 p3, args = #[v0, v1, v2, v3] ∧ ds = [d0, d1, d2, d3] ∧ ps = p0 ++ p1 ++ p2 ++ p3 ++ [] ∧ DataW.Trod enc P w base spare held t0 v0 d0 p0 ∧ DataW.Trod enc P w base spare held t1 v1 d1 p1 ∧ DataW.Trod enc P w base spare held t2 v2 d2 p2 ∧ DataW.Trod enc P w base spare held t3 v3 d3 p3 := by
  obtain ⟨v0, r0, d0, s0, p0, q0, e0, rfl, rfl, g0, k0⟩ := trodAll_cons h
  obtain ⟨v1, r1, d1, s1, p1, q1, rfl, rfl, rfl, g1, k1⟩ := trodAll_cons k0
  obtain ⟨v2, r2, d2, s2, p2, q2, rfl, rfl, rfl, g2, k2⟩ := trodAll_cons k1
  obtain ⟨v3, r3, d3, s3, p3, q3, rfl, rfl, rfl, g3, k3⟩ := trodAll_cons k2
  obtain ⟨rfl, rfl, rfl⟩ := trodAll_nil k3
  exact ⟨v0, v1, v2, v3, d0, d1, d2, d3, p0, p1, p2, p3, Array.toList_inj.1 e0, rfl, by simp only [List.append_assoc], g0, g1, g2, g3⟩
theorem trodAll_five' {t0 t1 t2 t3 t4 : TypeId} {args : Array Value} {ds : List (DataW H)} {ps : List MemPlace} (h : DataW.TrodAll enc P w base spare held [t0, t1, t2, t3, t4] args.toList ds ps) :
    ∃ v0 v1 v2 v3 v4 d0 d1 d2 d3 d4 p0 p1 p2 p3 p4, args = #[v0, v1, v2, v3, v4] ∧ ds = [d0, d1, d2, d3, d4] ∧ ps = p0 ++ p1 ++ p2 ++ p3 ++ p4 ++ [] ∧ DataW.Trod enc P w base spare held t0 v0 d0 p0 ∧ DataW.Trod enc P w base spare held t1 v1 d1 p1 ∧ DataW.Trod enc P w base spare held t2 v2 d2 p2 ∧ DataW.Trod enc P w base spare held t3 v3 d3 p3 ∧ DataW.Trod enc P w base spare held t4 v4 d4 p4 := by
  obtain ⟨v0, r0, d0, s0, p0, q0, e0, rfl, rfl, g0, k0⟩ := trodAll_cons h
  obtain ⟨v1, r1, d1, s1, p1, q1, rfl, rfl, rfl, g1, k1⟩ := trodAll_cons k0
  obtain ⟨v2, r2, d2, s2, p2, q2, rfl, rfl, rfl, g2, k2⟩ := trodAll_cons k1
  obtain ⟨v3, r3, d3, s3, p3, q3, rfl, rfl, rfl, g3, k3⟩ := trodAll_cons k2
  obtain ⟨v4, r4, d4, s4, p4, q4, rfl, rfl, rfl, g4, k4⟩ := trodAll_cons k3
  obtain ⟨rfl, rfl, rfl⟩ := trodAll_nil k4
  exact ⟨v0, v1, v2, v3, v4, d0, d1, d2, d3, d4, p0, p1, p2, p3, p4, Array.toList_inj.1 e0, rfl, by simp only [List.append_assoc], g0, g1, g2, g3, g4⟩
theorem trodAll_six' {t0 t1 t2 t3 t4 t5 : TypeId} {args : Array Value} {ds : List (DataW H)} {ps : List MemPlace} (h : DataW.TrodAll enc P w base spare held [t0, t1, t2, t3, t4, t5] args.toList ds ps) :
    ∃ v0 v1 v2 v3 v4 v5 d0 d1 d2 d3 d4 d5 p0 p1 p2 p3 p4 p5, args = #[v0, v1, v2, v3, v4, v5] ∧ ds = [d0, d1, d2, d3, d4, d5] ∧ ps = p0 ++ p1 ++ p2 ++ p3 ++ p4 ++ p5 ++ [] ∧ DataW.Trod enc P w base spare held t0 v0 d0 p0 ∧ DataW.Trod enc P w base spare held t1 v1 d1 p1 ∧ DataW.Trod enc P w base spare held t2 v2 d2 p2 ∧ DataW.Trod enc P w base spare held t3 v3 d3 p3 ∧ DataW.Trod enc P w base spare held t4 v4 d4 p4 ∧ DataW.Trod enc P w base spare held t5 v5 d5 p5 := by
  obtain ⟨v0, r0, d0, s0, p0, q0, e0, rfl, rfl, g0, k0⟩ := trodAll_cons h
  obtain ⟨v1, r1, d1, s1, p1, q1, rfl, rfl, rfl, g1, k1⟩ := trodAll_cons k0
  obtain ⟨v2, r2, d2, s2, p2, q2, rfl, rfl, rfl, g2, k2⟩ := trodAll_cons k1
  obtain ⟨v3, r3, d3, s3, p3, q3, rfl, rfl, rfl, g3, k3⟩ := trodAll_cons k2
  obtain ⟨v4, r4, d4, s4, p4, q4, rfl, rfl, rfl, g4, k4⟩ := trodAll_cons k3
  obtain ⟨v5, r5, d5, s5, p5, q5, rfl, rfl, rfl, g5, k5⟩ := trodAll_cons k4
  obtain ⟨rfl, rfl, rfl⟩ := trodAll_nil k5
  exact ⟨v0, v1, v2, v3, v4, v5, d0, d1, d2, d3, d4, d5, p0, p1, p2, p3, p4, p5, Array.toList_inj.1 e0, rfl, by simp only [List.append_assoc], g0, g1, g2, g3, g4, g5⟩
end
/-- A slice that came in. -/
def SlIn (w : World) (z v : Value) : Prop := ∃ xs, xs.length ≤ maxLen ∧ (∀ x ∈ xs, RawOk z x) ∧ DRa (zW w) (dsl z xs) v
/-- Numbers that came in. -/
theorem ints_ok {k : IntKind} {n : Int} {xs : List Value} (h : ∀ x ∈ xs, RawOk (.int k n) x) : ∀ (i : Nat) d, i < xs.length → ∃ m, xs.getD i d = .int k m ∧ (Lit.int k m).wf = true := by
  intro i d hi
  rw [List.getD_eq_getElem?_getD, List.getElem?_eq_getElem hi]
  have := h _ (List.getElem_mem hi)
  generalize xs[i] = u at this
  cases this with
  | int hw => exact ⟨_, rfl, hw⟩
end Go.Abs
