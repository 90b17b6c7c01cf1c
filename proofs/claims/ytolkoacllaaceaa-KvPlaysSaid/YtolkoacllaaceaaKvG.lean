/-
  slices.Grow of nil: a slice of its own, with room.
-/
import Derived.Test.YtolkoacllaaceaaKvD
import Derived.Shelf.Spec.SlicesGrow
import Derived.Ground.Names8Prog
namespace Go.Proofs.Ytolkoacllaaceaa
open Go.Shelf Go.Abs Go.RowKit Go Go.Lib
shelf_lay_g Lays8.n4 Nm8 4 at Try 34 as growL
theorem dra_plain {fz : Nat → Nat → Option Value} {x v' : Value} (hp : plain1 x = true) (h : DRa fz x v') : v' = x := by
  rcases h with ⟨_, h⟩ | ⟨xs, ys, rfl, _, _⟩
  · exact dr_plain hp h
  · simp [plain1] at hp
/-- Grow of nil, from what its text does. -/
theorem grow_pf {fi : FuncId} {fn : Func} {c : Code} (hf : Try.prog.funcs[fi]? = some fn) (hb : fn.body = some c) {z : Value} {e : TypeId} {z0 : Value} (hsz : z0.cells.size = z.cells.size)
    (h0 : ∀ w, Calls Try.prog fi #[.slice none 0 0, .int .i64 (0 : Nat)] w fun en w' => en = .returned (.slice none 0 0) ∧ w' = w)
    (h1 : ∀ (n : Nat) w, 0 < n → n ≤ 4000000 → Calls Try.prog fi #[.slice none 0 0, .int .i64 n] w fun en w' => ∃ cp, en = .returned (.slice (some ⟨w.heap.size, 0, none⟩) 0 cp) ∧
      w' = w.drew.alloc (.cells (#[] ++ Builtin.zeroCells z0.cells n ++ Builtin.zeroCells z0.cells (cp - n)) e)) : PFOk Try.prog fi (growP std z) := by
  refine ⟨fun {zf base w} hbase hz0 {d} hpre {xs} hraw {args'} hl => ?_⟩
  obtain ⟨_, n, _⟩ := d
  obtain ⟨hn0, hn1⟩ := hpre
  have hn0 : 0 ≤ n := hn0
  have hn1 : n ≤ 4000000 := hn1
  obtain ⟨m, rfl⟩ : ∃ m : Nat, n = (m : Int) := ⟨n.toNat, by omega⟩
  have hx : xs = [.slice none 0 0, .int .i64 m] := by
    have e : rawVs deep0 (growP std z).zs ((growP std z).args ((), (m : Int), ())) = some [.slice none 0 0, .int .i64 m] := rfl
    rw [e] at hraw
    exact (Option.some.inj hraw).symm
  subst hx
  obtain ⟨a0, l0, e0, r0, hl⟩ := hl.inv_cons
  obtain ⟨a1, l1, rfl, r1, hl⟩ := hl.inv_cons
  have := hl.inv_nil; subst this
  rw [dra_plain rfl r0, dra_plain rfl r1] at e0
  have ha : args' = #[.slice none 0 0, .int .i64 m] := Array.toList_inj.1 e0
  subst ha
  have hn := Try.progOk.name hf
  have hfv : ∀ b, (freshV ((growP std z).res ((), (m : Int), ())) b) = some (osl z [] b) := fun b => by
    show (match asDeep (dsl z []) with | some (z, xs) => some (osl z xs b) | none => none) = _
    rw [asDeep_dsl]
  refine .inr ⟨by simp [callFunc, hf, hn, hb], ?_⟩
  by_cases hm : m = 0
  · subst hm
    refine (h0 w).mono ?_
    rintro en w' ⟨rfl, rfl⟩
    refine ⟨_, rfl, zf, none, .refl _ _, fun _ _ _ h => h, fun _ _ _ h => .inl h, hz0, fun {μ b} hz ht => ?_, fun _ b => by rw [hfv]; rfl, fun p h => by cases h⟩
    show VR μ (osl z [] b) _
    exact .zero (.osl .nil rfl (.inl rfl))
  · refine (h1 m w (by omega) (by omega)).mono ?_
    rintro en w' ⟨cp, rfl, rfl⟩
    have hgr := grow_drew_alloc w (.cells (#[] ++ Builtin.zeroCells z0.cells m ++ Builtin.zeroCells z0.cells (cp - m)) e)
    have hz9 : (#[] ++ Builtin.zeroCells z0.cells m ++ Builtin.zeroCells z0.cells (cp - m)).size = m * z.cells.size + (cp - m) * z.cells.size := by
      rw [Array.size_append, Array.size_append, size_zeroC, size_zeroC, hsz]; simp
    generalize hA : (#[] ++ Builtin.zeroCells z0.cells m ++ Builtin.zeroCells z0.cells (cp - m)) = arr at hz9 hgr
    refine ⟨_, rfl, zf, some ⟨w.heap.size, 0, arr.size⟩, ⟨hgr.os, hgr.tape, hgr.output, by rw [hgr.size]; omega, hgr.old⟩, fun _ _ _ h => h, fun _ _ _ h => .inl h, fun c i a h => ?_, fun {μ b} hz ht => ?_, fun _ b => by rw [hfv]; rfl, fun p h => ?_⟩
    · obtain ⟨arr', e', fr', h2, h3⟩ := hz0 c i a h
      exact ⟨arr', e', fr', (hgr.old c (Array.getElem?_eq_some_iff.1 h2).1).trans h2, h3⟩
    · show VR μ (osl z [] b) _
      refine .zero (.osl .nil rfl (.inr ⟨rfl, ⟨w.heap.size, 0, arr.size⟩, w.heap.size, 0, rfl, ht, rfl, by simp, ?_⟩))
      show 0 + cp * z.cells.size ≤ arr.size
      rw [hz9, ← Nat.add_mul, Nat.zero_add]
      exact Nat.mul_le_mul_right _ (by omega)
    · simp only [Option.some.injEq] at h; subst h
      refine ⟨rfl, Nat.le_refl _, fun c i a h hc => ?_, arr, e, _, hgr.new, rfl, fun i _ h => ?_⟩
      · obtain ⟨arr', e', fr', h2, _⟩ := hz0 c i a h
        have := (Array.getElem?_eq_some_iff.1 h2).1
        simp at hc; omega
      · simp at h
theorem grow_ok : PFOk Try.prog 34 (growP std zP) := by
  obtain ⟨c, hb⟩ : ∃ c, Try.f34.body = some c := ⟨_, rfl⟩
  have i1 : ((Try.prog.info? (growL_ren.t 25)).bind fun i => i.zero) = some zP := by kernel_rfl
  have i2 : ((Try.prog.info? (growL_ren.t 25)).map fun i => (i.size, i.bytes)) = some (2, 32) := by kernel_rfl
  cases hi : Try.prog.info? (growL_ren.t 25) with
  | none => rw [hi] at i2; cases i2
  | some i0 =>
    rw [hi] at i1 i2
    simp only [Option.bind_some, Option.map_some, Option.some.injEq, Prod.mk.injEq] at i1 i2
    obtain ⟨i2, i3⟩ := i2
    refine grow_pf (e := growL_ren.t 25) (z0 := zP) Try.func34 hb rfl (fun w => ?_) fun n w h1 h2 => ?_
    · exact Any8.slices_Grow_room growL none 0 0 0 w (by omega) (by omega) (by omega) (by omega)
    · refine (Any8.slices_Grow_grow growL i0 zP hi i1 (by omega) none 0 0 n [] w (by omega) (by omega) (by rw [i3]; omega) (by omega) (by simp) (fun _ => rfl) (fun a h => by cases h)).mono ?_
      rintro en w' ⟨rfl, rfl⟩
      exact ⟨grownCap w (0 + n) 0 (growL_ren.t 25), rfl, by simp only [Nat.zero_add, Nat.sub_zero]⟩
end Go.Proofs.Ytolkoacllaaceaa
