/-
  WHAT COMES IN: slices that are only read, as rows of unknown length.
-/
import Derived.Test.YtecdmdglkkeidaaAbs40
import Derived.ChangeSlices
namespace Go.Abs
open Go

/-- The heap of what came in. -/
noncomputable def inH (l : List (Option Blk)) : Hp := H0.from l
def inMu (l : List (Pl × Option Blk)) : Mu := fun b => (l[b]?).map (·.1)
theorem inH_get (l : List (Option Blk)) (b : Nat) : (inH l).get b = (l[b]?).join := by
  unfold inH
  rw [Hp.from_get]
  have : H0.next = 0 := rfl
  rw [this, if_neg (by omega), Nat.sub_zero]
theorem inH_next (l : List (Option Blk)) : (inH l).next = l.length := by
  unfold inH
  rw [Hp.from_next]
  show 0 + l.length = _
  omega

/-- What holds of one that came in. -/
def InOk (base : Nat) (w : World) (x : Pl × Option Blk) : Prop := ∀ b, x.2 = some b → ownB b = false ∧ ∀ μ, BR μ base w x.1 b

theorem in_rel {l : List (Pl × Option Blk)} {base : Nat} {w : World} (hb : base ≤ w.heap.size) (h : ∀ x ∈ l, InOk base w x) : Rel (inMu l) base (inH (l.map (·.2))).get w := by
  have key : ∀ b p x, inMu l b = some p → (inH (l.map (·.2))).get b = some x → ownB x = false ∧ ∀ μ, BR μ base w p x := by
    intro b p x h1 h2
    rw [inH_get, List.getElem?_map] at h2
    unfold inMu at h1
    cases hl : l[b]? with
    | none => rw [hl] at h1; cases h1
    | some y =>
      rw [hl] at h1 h2
      simp only [Option.map_some, Option.some.injEq] at h1
      simp only [Option.map_some, Option.join_some] at h2
      subst h1
      exact h y (List.mem_of_getElem? hl) x h2
  refine ⟨hb, fun b p x h1 h2 => (key b p x h1 h2).2 _, fun b b' p p' x x' h1 h2 h3 h4 h5 h6 => ?_⟩
  rw [(key b p x h1 h3).1] at h6
  cases h6
theorem in_free (l : List (Pl × Option Blk)) : ∀ b, (inH (l.map (·.2))).next ≤ b → inMu l b = none := by
  intro b h
  rw [inH_next, List.length_map] at h
  unfold inMu
  rw [List.getElem?_eq_none h]; rfl
theorem in_ro {l : List (Pl × Option Blk)} {base : Nat} {w : World} (h : ∀ x ∈ l, InOk base w x) : ∀ b x, (inH (l.map (·.2))).get b = some x → ownB x = false := by
  intro b x h2
  rw [inH_get, List.getElem?_map] at h2
  cases hl : l[b]? with
  | none => rw [hl] at h2; cases h2
  | some y =>
    rw [hl] at h2
    simp only [Option.map_some, Option.join_some] at h2
    exact (h y (List.mem_of_getElem? hl) x h2).1

/-- A row of integers in the model's memory. -/
theorem in_ints {base : Nat} {w : World} {a : Addr} {zs : List Int} {k : IntKind} (hne : 0 < zs.length) (hc : ∀ i, i < zs.length → w.cell? (a.add i) = some (.int k (zs.getD i 0))) :
    a.spot = none ∧ ∃ p : Pl, p.c = a.block ∧ p.s = a.off ∧ a.off + zs.length ≤ p.N ∧ InOk base w (p, some (.row (.ints k zs) true)) := by
  have h0 := hc 0 hne
  rw [show a.add 0 = a from rfl] at h0
  unfold World.cell? at h0
  split at h0
  case h_2 => cases h0
  rename_i arr e fr hb
  have hb : w.heap[a.block]? = some (.cells arr e fr) := hb
  have hs : a.spot = none := by
    split at h0
    · cases h0
    · rename_i hs
      have hs : ¬ a.spot.isSome = true := hs
      simpa using hs
  have each : ∀ i, i < zs.length → arr[a.off + i]? = some (.int k (zs.getD i 0)) := by
    intro i hi
    have h1 := hc i hi
    have ha : a.add i = ⟨a.block, a.off + i, none⟩ := by
      unfold Addr.add
      split
      · rename_i e
        subst e
        obtain ⟨x, y, z⟩ := a
        simp only at hs
        subst hs; rfl
      · rfl
    rw [ha] at h1
    unfold World.cell? at h1
    simp only [hb] at h1
    exact h1
  refine ⟨hs, ⟨a.block, a.off, arr.size⟩, rfl, rfl, ?_, fun b hb' => ?_⟩
  · have := each (zs.length - 1) (by omega)
    have := (Array.getElem?_eq_some_iff.1 this).1
    show a.off + zs.length ≤ arr.size
    omega
  · simp only [Option.some.injEq] at hb'
    subst hb'
    refine ⟨rfl, fun μ => ⟨arr, e, fr, hb, rfl, fun i v hv => ?_, fun h => by cases h⟩⟩
    have hv : (zs.map (Value.int k))[i]? = some v := hv
    rw [List.getElem?_map] at hv
    cases hz : zs[i]? with
    | none => rw [hz] at hv; cases hv
    | some z =>
      rw [hz] at hv
      simp only [Option.map_some, Option.some.injEq] at hv
      subst hv
      have hi := (List.getElem?_eq_some_iff.1 hz).1
      refine ⟨.int k z, ?_, .zero (.plain rfl)⟩
      have h2 := each i hi
      rw [List.getD_eq_getElem?_getD, hz] at h2
      exact h2
end Go.Abs
