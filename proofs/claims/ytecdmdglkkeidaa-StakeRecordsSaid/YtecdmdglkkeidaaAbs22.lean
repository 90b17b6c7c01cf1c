/-
  FOR KNOWN ENTRIES: a world in which all that was there is as it was, and one new block of it is told.
-/
import Derived.Test.YtecdmdglkkeidaaAbs18
namespace Go.Abs
open Go

section
variable {P : Program} {μ : Mu} {base : Nat} {w w' : World}

theorem sim_same {g : Gm} (hr : Rel μ base g w) (hb : RowKit.Below w.heap.size w w') : Sim μ base g w μ g w' := by
  refine ⟨Mu.le_refl μ, ⟨Nat.le_trans hr.size hb.size, fun c q y hc hy => ?_, hr.inj⟩, ⟨hb.os, hb.tape, hb.output, hb.size, fun c hc _ => hb.block c hc⟩, fun c q y hc hy => .inr ⟨c, q, y, hc, hy, rfl, rfl⟩⟩
  have := hr.blk c q y hc hy
  exact this.keep (Mu.le_refl μ) (hb.block _ this.lt)

theorem sim_fresh {g : Gm} {b : Nat} {x : Blk} {p : Pl} (hr : Rel μ base g w) (hg : RowKit.Below w.heap.size w w') (hb : μ b = none) (hpc : w.heap.size ≤ p.c)
    (hx : BR (Mu.upd μ b p) base w' p x) : Sim μ base g w (Mu.upd μ b p) (fun c => if c = b then some x else g c) w' := by
  have hle := Mu.le_upd (p := p) hb
  refine ⟨hle, ⟨Nat.le_trans hr.size hg.size, fun c q y hc hy => ?_, fun c c' q q' y y' hc hc' hy hy' hne ho => ?_⟩, ⟨hg.os, hg.tape, hg.output, hg.size, fun c hc _ => hg.block c hc⟩, fun c q y hc hy => ?_⟩
  · by_cases e : c = b
    · subst e
      rw [Mu.upd_same] at hc
      simp at hc hy; subst hc; subst hy; exact hx
    · rw [Mu.upd_other e] at hc
      simp only [if_neg e] at hy
      have := hr.blk c q y hc hy
      exact this.keep hle (hg.block _ this.lt)
  · by_cases e : c = b
    · subst e
      have e' : c' ≠ c := fun h => hne h.symm
      rw [Mu.upd_same] at hc; rw [Mu.upd_other e'] at hc'
      simp at hc; subst hc
      simp only [if_neg e'] at hy'
      have := (hr.blk c' q' y' hc' hy').lt
      omega
    · rw [Mu.upd_other e] at hc
      simp only [if_neg e] at hy
      have h1 := (hr.blk c q y hc hy).lt
      by_cases e' : c' = b
      · subst e'
        rw [Mu.upd_same] at hc'
        simp at hc'; subst hc'
        omega
      · rw [Mu.upd_other e'] at hc'
        simp only [if_neg e'] at hy'
        exact hr.inj c c' q q' y y' hc hc' hy hy' hne ho
  · by_cases e : c = b
    · subst e
      rw [Mu.upd_same] at hc
      simp at hc; subst hc
      exact .inl hpc
    · rw [Mu.upd_other e] at hc
      simp only [if_neg e] at hy
      exact .inr ⟨c, q, y, hc, hy, rfl, rfl⟩

/-- A function that answers a new row of plain values. -/
theorem out_row {h : Hp} {xs : List Value} {e : TypeId} {v : Value} (hr : Rel μ base h.get w) (hb : RowKit.Below w.heap.size w w') (hf : μ h.next = none) (hp : ∀ x ∈ xs, plain1 x = true) (hx : xs ≠ [])
    (ho : w'.ownsRow w.heap.size e 1 v xs.length xs) : ∃ μ', Out μ base h w (.slice (some ⟨h.next, 0, none⟩) xs.length (unk 1)) (h.push (.cells xs false)) v w' μ' := by
  obtain ⟨_, ho | ⟨g, cap, cur, rfl, h1, h2, h3, _, h5, h6⟩⟩ := ho
  · exact absurd (List.length_eq_zero_iff.1 ho.2) hx
  · simp only [Nat.mul_one] at h5 h6
    refine ⟨Mu.upd μ h.next ⟨g, 0, cap⟩, .zero (.slice (p := ⟨g, 0, cap⟩) (Mu.upd_same _ _ _) h3 (.inl ⟨?_, ?_⟩)), ?_, Nat.le_succ _, dom_upd rfl, .push μ h _⟩
    · show UNK0 ≤ unk 1; unfold UNK0 unk; omega
    · show 0 + 0 + cap * (unk 1 - UNK0) ≤ cap
      have : unk 1 - UNK0 = 1 := by unfold UNK0 unk; omega
      rw [this]; omega
    · have := sim_fresh (x := .cells xs false) (p := ⟨g, 0, cap⟩) hr hb hf h1 ⟨cur, e, (0, 0), h2, h5, fun i y hy => ⟨y, ?_, .refl_plain (hp y (List.mem_of_getElem? hy))⟩, fun _ => ⟨Nat.le_trans hr.size h1, fun i _ hi => by omega, fun _ => rfl⟩⟩
      · rw [get_push_fun]; exact this
      · show cur[0 + i]? = some y
        rw [Nat.zero_add, ← Array.getElem?_toList]
        rw [← h6, List.getElem?_take] at hy
        split at hy
        · exact hy
        · cases hy
end
end Go.Abs
