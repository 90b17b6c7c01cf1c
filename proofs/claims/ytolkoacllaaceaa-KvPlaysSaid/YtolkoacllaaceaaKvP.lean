/-
  KvPlays: what its text asks for, answered.
-/
import Derived.Test.YtolkoacllaaceaaKvQ
import Derived.Test.YtolkoacllaaceaaKv3V
namespace Go.Proofs.Ytolkoacllaaceaa
open Go.RowKit Go.Abs Go
def playsI (xs : List Value) (d : PlL) : Prop := ∃ i : Nat, d.i = i ∧ i ≤ 30 ∧ i ≤ xs.length ∧ d.a = d.b ∧ RightL d.a
def playsM (d : PlL) : Nat := (30 - d.i).toNat
theorem tail_ok (xs ps : List Value) {d : PlL} {i : Nat} (hi : d.i = i) (h30 : i < 30) (hx : i < xs.length) (hd : RightL d.a) {A : List Value} (hA : RightL A) : tailP kvF xs ps (playsI xs) playsM d A A := by
  have ho := ((right_iff A).1 hA.1).2
  have hl : A.length ≤ 1000000 := by omega
  have hl' : d.a.length ≤ 1000000 := by have := ((right_iff d.a).1 hd.1).2.2; omega
  unfold tailP
  generalize kvF.key (eI xs d.i.toNat) = k
  have hb := bs_rfirst k ho.1
  have hfd := fd_eq k ho.1
  have hrr := rfirst_range A k
  have fin : (!(bsF A k == rfirstF A k)) = true → [Value.bool false] = [Value.bool true] := fun h => by rw [hb] at h; simp at h
  have next : (-9223372036854775808 ≤ d.i + 1 ∧ d.i + 1 ≤ 9223372036854775807) ∧ ∃ ee : PlL, [Filler.dl xs, Filler.dl ps, Filler.dl ee.a, Filler.dl ee.b, Filler.val (Value.int IntKind.i64 ee.i)] = [Filler.dl xs, Filler.dl ps, Filler.dl A, Filler.dl A, Filler.val (Value.int IntKind.i64 (d.i + 1))] ∧ Nat.le (Nat.succ (playsM ee)) (playsM d) ∧ playsI xs ee := by
    refine ⟨by omega, ⟨d.i + 1, A, A⟩, rfl, ?_, i + 1, by show d.i + 1 = _; omega, by omega, by omega, rfl, hA⟩
    show (30 - (d.i + 1)).toNat + 1 ≤ (30 - d.i).toNat
    omega
  have hs : kvF.same A A = true := same_self A
  have hsd : kvF.same d.a d.a = true := same_self d.a
  have hr : kvF.right A = true := hA.1
  have nos : ∀ {X : Prop}, (kvF.same A A = false → X) := fun h => by rw [hs] at h; cases h
  have nosd : ∀ {X : Prop}, (kvF.same d.a d.a = false → X) := fun h => by rw [hsd] at h; cases h
  have nor : ∀ {X : Prop}, (kvF.right A = false → X) := fun h => by rw [hr] at h; cases h
  refine ⟨hl, fun h1 => ?_, fun h1 => ?_⟩ <;> refine ⟨hl, fun h2 => ?_, fun h2 => ?_⟩
  · have h1 : fdF A k = true := h1
    have h2' : rfirstF A k < (A.length : Int) := of_decide_eq_true h2
    refine ⟨⟨hrr.1, h2'⟩, fun h3 => ?_, fun h3 => ?_⟩
    · refine ⟨hl, fun _ => ⟨hl, fun _ => ⟨⟨hrr.1, h2'⟩, fun h4 => ?_, fun _ => ⟨hl', fun _ => ⟨hl, fin, fun _ => next⟩, nosd⟩⟩, nor⟩, nos⟩
      exfalso
      have h4 : (!eqB (getF A k) (vP A (rfirstF A k).toNat)) = true := h4
      unfold getF at h4
      rw [if_pos h1, hb, eqB_iff.2 rfl] at h4
      cases h4
    · exfalso
      have h3 : eqB (kP A (rfirstF A k).toNat) k = false := h3
      rw [hfd, h3, Bool.and_false] at h1; cases h1
  · exfalso
    have h1 : fdF A k = true := h1
    have h2 : decide (rfirstF A k < (A.length : Int)) = false := h2
    rw [hfd, h2, Bool.false_and] at h1; cases h1
  · have h1 : fdF A k = false := h1
    have h2' : rfirstF A k < (A.length : Int) := of_decide_eq_true h2
    refine ⟨⟨hrr.1, h2'⟩, fun h3 => ?_, fun h3 => ?_⟩
    · exfalso
      have h2 : decide (rfirstF A k < (A.length : Int)) = true := h2
      have h3 : eqB (kP A (rfirstF A k).toNat) k = true := h3
      rw [hfd, h2, h3] at h1; cases h1
    · refine ⟨hl, fun _ => ⟨hl, fun _ => ⟨fun h4 => ?_, fun _ => ⟨hl', fun _ => ⟨hl, fin, fun _ => next⟩, nosd⟩⟩, nor⟩, nos⟩
      exfalso
      have h4 : (!eqB (getF A k) noB) = true := h4
      unfold getF at h4
      rw [if_neg (by rw [h1]; exact Bool.false_ne_true), eqB_iff.2 rfl] at h4
      cases h4
  · have h1 : fdF A k = false := h1
    refine ⟨hl, fun _ => ⟨hl, fun _ => ⟨fun h4 => ?_, fun _ => ⟨hl', fun _ => ⟨hl, fin, fun _ => next⟩, nosd⟩⟩, nor⟩, nos⟩
    exfalso
    have h4 : (!eqB (getF A k) noB) = true := h4
    unfold getF at h4
    rw [if_neg (by rw [h1]; exact Bool.false_ne_true), eqB_iff.2 rfl] at h4
    cases h4
theorem body_ok (xs ps : List Value) {d : PlL} {i : Nat} (hi : d.i = i) (h30 : i < 30) (hx : i < xs.length) (hab : d.a = d.b) (hd : RightL d.a) (k v : ByteArray) : bodyP kvF xs ps (playsI xs) playsM d k v := by
  have ho := ((right_iff d.a).1 hd.1).2
  have hl : d.a.length ≤ 1000000 := by omega
  unfold bodyP
  rw [← hab]
  have hok := setok_eq hd k v
  refine ⟨by omega, by omega, by decide, fun _ => ⟨hl, hl, ?_⟩, fun _ => ⟨hl, fun h1 => ⟨trivial, fun h2 => ⟨hl, fun h3 => ?_, fun h3 => ⟨hl, ?_⟩⟩, fun h2 => ?_⟩, fun h1 => ⟨trivial, fun h2 => ⟨hl, fun h3 => ?_, fun h3 => ?_⟩, fun h2 => ?_⟩⟩⟩
  · show tailP kvF xs ps (playsI xs) playsM d (dropF d.a (keyF (eI xs d.i.toNat))) (rdelF d.a (keyF (eI xs d.i.toNat)))
    rw [drop_rdel _ hd.2 ho.1]
    refine tail_ok xs ps hi h30 hx hd ?_
    rw [rdel_eq _ hd.2]
    exact right_filter _ hd
  · exfalso
    have h1 : setokF d.a k v = true := h1
    have h3 : decide (30 < ((rsetF d.a k v).length : Int)) = true := h3
    rw [hok, h3] at h1; simp at h1
  · obtain ⟨e1, e2⟩ := set_rset hd (k := k) (v := v) h1
    show tailP kvF xs ps (playsI xs) playsM d (setF d.a k v) (rsetF d.a k v)
    rw [e1]
    exact tail_ok xs ps hi h30 hx hd e2
  · exfalso
    have h1 : setokF d.a k v = true := h1
    have h2 : rmayF k v = false := h2
    rw [hok, h2] at h1; cases h1
  · have h1 : setokF d.a k v = false := h1
    have e : setF d.a k v = d.a := by unfold setF; rw [if_neg (by rw [h1]; exact Bool.false_ne_true)]
    show tailP kvF xs ps (playsI xs) playsM d (setF d.a k v) d.a
    rw [e]
    exact tail_ok xs ps hi h30 hx hd hd
  · exfalso
    have h1 : setokF d.a k v = false := h1
    have h2 : rmayF k v = true := h2
    have h3 : decide (30 < ((rsetF d.a k v).length : Int)) = false := h3
    rw [hok, h2, h3] at h1; cases h1
  · have h1 : setokF d.a k v = false := h1
    have e : setF d.a k v = d.a := by unfold setF; rw [if_neg (by rw [h1]; exact Bool.false_ne_true)]
    show tailP kvF xs ps (playsI xs) playsM d (setF d.a k v) d.a
    rw [e]
    exact tail_ok xs ps hi h30 hx hd hd
theorem tdiv12 {x : Int} (h : -9223372036854775808 ≤ x ∧ x ≤ 9223372036854775807) : -9223372036854775808 ≤ x.tdiv 12 ∧ x.tdiv 12 ≤ 9223372036854775807 := by
  rcases Int.le_total 0 x with h0 | h0
  · rw [Int.tdiv_eq_ediv_of_nonneg h0]; omega
  · have : x.tdiv 12 = -((-x) / 12) := by
      rw [← Int.tdiv_eq_ediv_of_nonneg (by omega : 0 ≤ -x), Int.neg_tdiv, Int.neg_neg]
    rw [this]; omega
theorem plays_run (xs ps : List Value) (hxs : ∀ i, i < xs.length → -9223372036854775808 ≤ eI xs i ∧ eI xs i ≤ 9223372036854775807) : runP std (playsCon std kvF) 90 (playsLs xs ps (playsI xs) playsM) playsP 5 Try.f5 (xs, ps, ()) := by
  rw [plays_vc]
  refine ⟨⟨0, [], []⟩, rfl, ⟨0, rfl, Nat.zero_le _, Nat.zero_le _, rfl, right_nil⟩, fun d ⟨i, hi, h30, hx, hab, hd⟩ => ⟨fun h1 => ⟨fun h2 => ?_, fun _ => rfl⟩, fun _ => rfl⟩⟩
  have h1 := of_decide_eq_true h1
  have h2 := of_decide_eq_true h2
  have hr := hxs d.i.toNat (by omega)
  have body := fun k v => body_ok xs ps hi (by omega) (by omega) hab hd k v
  have hq : -9223372036854775808 ≤ std.quo (eI xs d.i.toNat) 12 ∧ std.quo (eI xs d.i.toNat) 12 ≤ 9223372036854775807 := tdiv12 hr
  exact ⟨by omega, hr, by omega, ⟨by decide, hr⟩, hq, fun h3 => ⟨by decide, fun _ => ⟨⟨by omega, of_decide_eq_true h3⟩, body _ _⟩, fun _ => body _ _⟩, fun _ => body _ _⟩
end Go.Proofs.Ytolkoacllaaceaa
