/-
  THE ABSTRACT EVALUATOR AND THE MODEL: slices of slices, structs and arrays that are built, builtins; all operations that look at no memory.
-/
import Derived.Test.YtolkoacllaaceaaAbs4
namespace Go.Abs
open Go

section
variable {P : Program} {μ : Mu}

theorem isUnk_iff {k : Nat} : isUnk k = true ↔ UNK0 ≤ k := by unfold isUnk UNK0; simp
theorem isUnk_false {k : Nat} : isUnk k = false ↔ k < UNK0 := by unfold isUnk UNK0; simp
theorem unk_sub (e : Nat) : unk e - UNK0 = e := by unfold unk UNK0; omega
theorem UNK0_le_unk (e : Nat) : UNK0 ≤ unk e := by unfold unk UNK0; omega

theorem add_rel (c o s n : Nat) : (⟨c, o + s, none⟩ : Addr).add n = ⟨c, o + n + s, none⟩ := by
  unfold Addr.add; split
  · simp_all
  · simp; omega

/-- A slice of a row: of a slice that stands for one, or of an array. -/
theorem sliceRow_run {b o sz len cap : Nat} {lo hi mx lo' hi' mx' : Option Value} {v : Value} (h : sliceRow b o sz len cap lo hi mx = some v)
    (hmx : OptR μ mx mx') (hhi : OptR μ hi hi') (hlo : OptR μ lo lo') {p : Pl} (hp : μ b = some p) (k' : Nat) (hlen : len ≤ k')
    (hcap : (UNK0 ≤ cap ∧ o + p.s + k' * (cap - UNK0) ≤ p.N) ∨ (cap = k' ∧ cap < UNK0)) (is : Bool) (w : World) :
    ∃ l h m, (Instr.sliceBounds is len k' lo' hi' mx').run P w = .ok (l, h, m) w ∧
      VR μ v (.slice (some (if m = l then (⟨p.c, o + p.s, none⟩ : Addr) else (⟨p.c, o + p.s, none⟩ : Addr).add (l * sz))) (h - l) (m - l)) := by
  unfold sliceRow at h
  simp only at h
  have hk : (if isUnk cap then len else cap) ≤ k' := by
    rcases hcap with ⟨h1, _⟩ | ⟨h1, h2⟩
    · rw [isUnk_iff.2 h1]; exact hlen
    · rw [isUnk_false.2 h2]; simp [h1]
  split at h
  · rename_i m0
    split at h
    · cases h
    · rename_i y
      split at h
      · cases h
      · rename_i m hm
        split at h
        · cases h
        · rename_i hh hhh
          split at h
          · cases h
          · rename_i l hl
            split at h
            · rename_i hmb
              simp only [Option.some.injEq] at h; subst h
              refine ⟨l, hh, m, sliceBounds_run hk hmx hhi hlo (.inr ⟨m0, y, rfl, rfl, hm, hhh⟩) hl w, ?_⟩
              have hle : hh ≤ m := by
                rcases boundA_some (μ := μ) (x' := hi') hhh hhi.1 hhi.2 with ⟨rfl, rfl⟩ | ⟨k, n, _, h0, h1, rfl⟩
                · omega
                · omega
              by_cases e : m = l
              · rw [if_pos e, if_pos e]
                exact .zero (.slice hp (by omega) (.inr ⟨rfl, by omega⟩))
              · rw [if_neg e, if_neg e, add_rel]
                exact .zero (.slice hp (by omega) (.inr ⟨rfl, by omega⟩))
            · cases h
  · split at h
    · cases h
    · rename_i hh hhh
      split at h
      · cases h
      · rename_i l hl
        have hl' : l ≤ hh := by
          rcases boundA_some (μ := μ) (x' := lo') hl hlo.1 hlo.2 with ⟨_, rfl⟩ | ⟨k, n, _, h0, h1, rfl⟩ <;> omega
        have hh' : hh ≤ len ∨ hh ≤ (if isUnk cap then len else cap) := by
          rcases boundA_some (μ := μ) (x' := hi') hhh hhi.1 hhi.2 with ⟨_, rfl⟩ | ⟨k, n, _, h0, h1, rfl⟩
          · left; omega
          · right; omega
        have hhk : hh ≤ k' := by omega
        refine ⟨l, hh, k', sliceBounds_run hk hmx hhi hlo (.inl ⟨rfl, hhh, rfl⟩) hl w, ?_⟩
        split at h
        · rename_i hu
          have hu' := isUnk_iff.1 hu
          split at h
          · rename_i hc
            simp only [Option.some.injEq] at h; subst h
            rcases hcap with ⟨h1, h2⟩ | ⟨h1, h2⟩
            · by_cases e : k' = l
              · have h3 : hh - l = 0 := by omega
                have h4 : k' - l = 0 := by omega
                rw [h3, h4]
                exact .zero (.slice0 hp (.inl hu'))
              · rw [if_neg e, add_rel]
                refine .zero (.slice hp (by omega) (.inl ⟨hu', ?_⟩))
                rw [hc, unk_sub] at h2 ⊢
                have : k' * sz = l * sz + (k' - l) * sz := by rw [← Nat.add_mul]; congr 1; omega
                omega
            · omega
          · cases h
        · rename_i hu
          have hu' := isUnk_false.1 (by simpa using hu)
          rcases hcap with ⟨h1, h2⟩ | ⟨h1, h2⟩
          · omega
          · subst h1
            simp only [Option.some.injEq] at h; subst h
            by_cases e : cap = l
            · rw [if_pos e, if_pos e]
              exact .zero (.slice hp (by omega) (.inr ⟨rfl, by omega⟩))
            · rw [if_neg e, if_neg e, add_rel]
              exact .zero (.slice hp (by omega) (.inr ⟨rfl, by omega⟩))

theorem sliceRow_zero {b o sz cap : Nat} {lo hi mx lo' hi' mx' : Option Value} {v : Value} (h : sliceRow b o sz 0 cap lo hi mx = some v)
    (hc : UNK0 ≤ cap ∨ cap = 0) {p0 : Pl} (hp0 : μ b = some p0) (hmx : OptR μ mx mx') (hhi : OptR μ hi hi') (hlo : OptR μ lo lo') (a' : Addr) (is : Bool) (w : World) :
    (Instr.sliceBounds is 0 0 lo' hi' mx').run P w = .ok (0, 0, 0) w ∧ VR μ v (.slice (some a') 0 0) := by
  have hk : (if isUnk cap then 0 else cap) = 0 := by
    rcases hc with h | h
    · rw [isUnk_iff.2 h]; rfl
    · subst h; split <;> rfl
  unfold sliceRow at h
  simp only [hk] at h
  split at h
  · rename_i m0
    split at h
    · cases h
    · rename_i y
      split at h
      · cases h
      · rename_i m hm
        have hm0 : m = 0 := by
          rcases boundA_some (μ := μ) (x' := mx') hm hmx.1 hmx.2 with ⟨_, rfl⟩ | ⟨k, n, _, h0, h1, rfl⟩ <;> omega
        subst hm0
        split at h
        · cases h
        · rename_i hh hhh
          have hh0 : hh = 0 := by
            rcases boundA_some (μ := μ) (x' := hi') hhh hhi.1 hhi.2 with ⟨_, rfl⟩ | ⟨k, n, _, h0, h1, rfl⟩ <;> omega
          subst hh0
          split at h
          · cases h
          · rename_i l hl
            have hl0 : l = 0 := by
              rcases boundA_some (μ := μ) (x' := lo') hl hlo.1 hlo.2 with ⟨_, rfl⟩ | ⟨k, n, _, h0, h1, rfl⟩ <;> omega
            subst hl0
            split at h
            · simp at h; subst h
              exact ⟨sliceBounds_run (Nat.le_refl 0) hmx hhi hlo (.inr ⟨m0, y, rfl, rfl, hm, hhh⟩) hl w, .zero (.slice0 hp0 (.inr rfl))⟩
            · cases h
  · split at h
    · cases h
    · rename_i hh hhh
      have hh0 : hh = 0 := by
        rcases boundA_some (μ := μ) (x' := hi') hhh hhi.1 hhi.2 with ⟨_, rfl⟩ | ⟨k, n, _, h0, h1, rfl⟩ <;> omega
      subst hh0
      split at h
      · cases h
      · rename_i l hl
        have hl0 : l = 0 := by
          rcases boundA_some (μ := μ) (x' := lo') hl hlo.1 hlo.2 with ⟨_, rfl⟩ | ⟨k, n, _, h0, h1, rfl⟩ <;> omega
        subst hl0
        refine ⟨sliceBounds_run (Nat.le_refl 0) hmx hhi hlo (.inl ⟨rfl, hhh, rfl⟩) hl w, ?_⟩
        split at h
        · rename_i hu
          split at h
          · simp at h; subst h; exact .zero (.slice0 hp0 (.inl (isUnk_iff.1 hu)))
          · cases h
        · rename_i hu
          have := isUnk_false.1 (by simpa using hu)
          have hc0 : cap = 0 := by omega
          subst hc0
          simp at h; subst h
          exact .zero (.slice0 hp0 (.inr rfl))

theorem sliceA_run {t : TypeId} {x x' v : Value} {lo hi mx lo' hi' mx' : Option Value} (h : sliceA P t x lo hi mx = some v) (hx : VR μ x x')
    (hlo : OptR μ lo lo') (hhi : OptR μ hi hi') (hmx : OptR μ mx mx') (w : World) :
    ∃ v', (Instr.sliceAt t x' lo' hi' mx').run P w = .ok v' w ∧ VR μ v v' := by
  unfold sliceA at h
  split at h
  · rename_i n elem b o hu
    split at h
    · rename_i sz hsz
      split at h
      · cases h
      · rename_i hn
        have hn' := isUnk_false.1 (by simpa using hn)
        obtain ⟨p, hp, rfl⟩ := hx.inv_ptr
        obtain ⟨l, hh, m, hr, hv⟩ := sliceRow_run (P := P) h hmx hhi hlo hp n (Nat.le_refl n) (.inr ⟨rfl, hn'⟩) false w
        refine ⟨_, ?_, hv⟩
        simp [Instr.sliceAt, run_underlying hu, Instr.sureAddr, hr, szA_run hsz]
    · cases h
  · rename_i s hu
    have := hx.inv_string; subst this
    split at h
    · cases h
    · split at h
      · cases h
      · rename_i hh hhh
        split at h
        · cases h
        · rename_i l hl
          simp only [Option.some.injEq] at h; subst h
          refine ⟨_, ?_, .plain1 rfl⟩
          have hn := hmx.2 rfl
          subst hn
          have hs : s.data.toList.length = s.size := rfl
          rw [hs] at hhh
          have hb := sliceBounds_run (P := P) (μ := μ) (b := false) (len := s.size) (cap := s.size) (known := s.size) (m := s.size) (Nat.le_refl _) hmx hhi hlo (.inl ⟨rfl, hhh, rfl⟩) hl w
          have hx : s.extract l hh = ⟨((s.data.toList.drop l).take (hh - l)).toArray⟩ := by
            apply ByteArray.ext
            rw [ByteArray.data_extract, ← Array.toList_inj, Array.toList_extract, List.extract_eq_take_drop]
          simp [Instr.sliceAt, Instr.slice, run_underlying hu, hb, hx]
  · rename_i elem b o len cap hu
    split at h
    · rename_i sz hsz
      rcases hx.inv_slice with ⟨p, k', hp, rfl, hlen, hcap⟩ | ⟨rfl, hc, a', ⟨p0, hp0⟩, rfl⟩
      · obtain ⟨l, hh, m, hr, hv⟩ := sliceRow_run (P := P) h hmx hhi hlo hp k' hlen hcap true w
        refine ⟨_, ?_, hv⟩
        simp only [Instr.sliceAt, Instr.slice, Sem.run_bind, run_underlying hu, Result.andThen_ok, hr, szA_run hsz, Sem.run_pure]
        split <;> rfl
      · obtain ⟨hr, hv⟩ := sliceRow_zero (P := P) h hc hp0 hmx hhi hlo a' true w
        refine ⟨_, ?_, hv⟩
        simp only [Instr.sliceAt, Instr.slice, Sem.run_bind, run_underlying hu, Result.andThen_ok, hr, szA_run hsz, Sem.run_pure]
        rfl
    · cases h
  · rename_i elem hu
    have := hx.eq_of_plain (v := .slice none 0 0) rfl; subst this
    split at h
    · rename_i sz hsz
      split at h
      · cases h
      · rename_i hh hhh
        split at h
        · cases h
        · rename_i l hl
          simp only [Option.some.injEq] at h; subst h
          have hn := hmx.2 rfl
          subst hn
          have hh0 : hh = 0 := by
            rcases boundA_some (μ := μ) (x' := hi') hhh hhi.1 hhi.2 with ⟨_, rfl⟩ | ⟨k, n, _, h0, h1, rfl⟩ <;> omega
          subst hh0
          have hl0 : l = 0 := by
            rcases boundA_some (μ := μ) (x' := lo') hl hlo.1 hlo.2 with ⟨_, rfl⟩ | ⟨k, n, _, h0, h1, rfl⟩ <;> omega
          subst hl0
          have hb := sliceBounds_run (P := P) (μ := μ) (b := true) (len := 0) (cap := 0) (known := 0) (m := 0) (Nat.le_refl _) hmx hhi hlo (.inl ⟨rfl, hhh, rfl⟩) hl w
          refine ⟨.slice none 0 0, ?_, .plain1 rfl⟩
          simp only [Instr.sliceAt, Instr.slice, Sem.run_bind, run_underlying hu, Result.andThen_ok, hb, szA_run hsz, Sem.run_pure]
          rfl
    · cases h
  · cases h

theorem all2_splice {R : Value → Value → Prop} : ∀ {vs us l m : List Value} (o : Nat), All2 R l m → All2 R vs us → All2 R (spliceL l o vs) (spliceL m o us)
  | [], us, l, m, o, h, hv => by
    have := hv.inv_nil; subst this; exact h
  | v :: vs, us, l, m, o, h, hv => by
    obtain ⟨u, us', rfl, r, hr⟩ := hv.inv_cons
    exact all2_splice (o + 1) (h.set o r) hr
theorem length_splice : ∀ (vs l : List Value) (o : Nat), (spliceL l o vs).length = l.length
  | [], _, _ => rfl
  | v :: vs, l, o => by unfold spliceL; rw [length_splice]; simp

theorem foldl_splice (off : Nat) : ∀ (vs : List Value) (k : Nat) (cells : Array Value),
    ((vs.zipIdx k).foldl (fun (cs : Array Value) (x : Value × Nat) => cs.setIfInBounds (off + x.2) x.1) cells).toList = spliceL cells.toList (off + k) vs
  | [], k, cells => rfl
  | v :: vs, k, cells => by
    simp only [List.zipIdx_cons, List.foldl_cons]
    rw [foldl_splice off vs (k + 1)]
    simp only [Array.toList_setIfInBounds, spliceL]
    rfl

theorem fill_run (place : Nat → Option (Nat × Nat)) : ∀ (parts parts' : List (Nat × Value)) (cells : List Value) (cells' : Array Value) (cs : List Value),
    fillA place cells parts = some cs → All2 (VR1 μ) cells cells'.toList →
    All2 (fun x y => x.1 = y.1 ∧ VR μ x.2 y.2) parts parts' → (∀ x ∈ parts, x.2.cells.toList.all Value.oneCell' = true) →
    ∃ cs', Instr.fill place cells' parts' = some cs' ∧ All2 (VR1 μ) cs cs'.toList
  | [], parts', cells, cells', cs, h, hc, hp, _ => by
    have := hp.inv_nil; subst this
    simp only [fillA, Option.some.injEq] at h; subst h
    exact ⟨cells', rfl, hc⟩
  | (i, v) :: rest, parts', cells, cells', cs, h, hc, hp, hone => by
    obtain ⟨⟨i', v'⟩, rest', rfl, ⟨hi, hv⟩, hr⟩ := hp.inv_cons
    simp only at hi hv; subst hi
    unfold fillA at h
    unfold Instr.fill
    have hvc := hv.cells (hone (i, v) (by simp))
    cases hpl : place i with
    | none => simp [hpl] at h
    | some q =>
      obtain ⟨off, size⟩ := q
      simp only [hpl] at h ⊢
      split at h
      · rename_i hs
        have h1 : v'.cells.size = size := by rw [← hs.1, ← Array.length_toList, ← Array.length_toList, hvc.1]
        have h2 : cells'.size = cells.length := by rw [← Array.length_toList, hc.1]
        have hcond : (decide (v'.cells.size ≠ size) || decide (off + v'.cells.size > cells'.size)) = false := by
          rw [h1, h2]; simp; exact hs.2
        rw [if_neg (by rw [hcond]; simp)]
        refine fill_run place rest rest' _ _ cs h ?_ hr (fun x hx => hone x (by simp [hx]))
        have hf := foldl_splice off v'.cells.toList 0 cells'
        rw [Nat.add_zero] at hf
        rw [← Array.foldl_toList, Array.toList_zipIdx]
        rw [hf]
        exact all2_splice off hc hvc
      · cases h

theorem places_run : ∀ (fs : List Field) (pl : List (Nat × Nat)), placesA P fs = some pl → ∀ w : World,
    (fs.mapM (m := Sem) fun f => do pure (f.offset, ← sizeOf f.type)).run P w = .ok pl w
  | [], pl, h, w => by simp only [placesA, Option.some.injEq] at h; subst h; rfl
  | f :: r, pl, h, w => by
    unfold placesA at h
    split at h
    · rename_i n l hn hl
      simp only [Option.some.injEq] at h; subst h
      rw [List.mapM_cons]
      simp only [Sem.run_bind, szA_run hn, Result.andThen_ok, Sem.run_pure, places_run r l hl w]
    · cases h

theorem zero_cells {z : Value} (h : plainA z = true) : All2 (VR1 μ) z.cells.toList z.cells.toList := (VRa.refl_plain (plainA_spec h).1 (plainA_spec h).2).cells

end
end Go.Abs
