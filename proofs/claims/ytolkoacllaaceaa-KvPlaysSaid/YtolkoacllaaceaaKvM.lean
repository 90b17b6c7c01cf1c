/-
  KV: Concat, Clone, Set, Del, Range, keys and texts.
-/
import Derived.Test.YtolkoacllaaceaaKvL
namespace Go.Proofs.Ytolkoacllaaceaa
open Go.RowKit Go.Abs Go
/-- A statement, kept whole. -/
structure Holds (p : Prop) : Prop where
  out : p
theorem dels_dsl (z : Value) (l : List Value) : dels (dsl z l) = l := by simp [dels, dsl]
theorem catF3 (a b c : List Value) : catF [dsl zP a, dsl zP b, dsl zP c] = a ++ b ++ c := by
  show dels (dsl zP a) ++ (dels (dsl zP b) ++ (dels (dsl zP c) ++ [])) = _
  rw [dels_dsl, dels_dsl, dels_dsl, List.append_nil, List.append_assoc]
theorem catF2 (a b : List Value) : catF [dsl zP a, dsl zP b] = a ++ b := by
  show dels (dsl zP a) ++ (dels (dsl zP b) ++ []) = _
  rw [dels_dsl, dels_dsl, List.append_nil]
def sumL (xss : List Value) : Nat → Nat
  | 0 => 0
  | i + 1 => sumL xss i + (eL xss i).length
theorem sumL_le {xss : List Value} (h : ∀ i, i < xss.length → (eL xss i).length ≤ 1000000) : ∀ i, i ≤ xss.length → sumL xss i ≤ i * 1000000
  | 0, _ => by simp [sumL]
  | i + 1, hi => by
    have := sumL_le h i (by omega)
    have := h i (by omega)
    unfold sumL
    omega
def catL (xss : List Value) : Nat → List Value
  | 0 => []
  | i + 1 => catL xss i ++ eL xss i
theorem catL_len (xss : List Value) : ∀ i, (catL xss i).length = sumL xss i
  | 0 => rfl
  | i + 1 => by unfold catL sumL; rw [List.length_append, catL_len xss i]
theorem catL_eq (xss : List Value) : ∀ n, catL xss n = (List.range n).flatMap (eL xss)
  | 0 => rfl
  | n + 1 => by
    unfold catL
    rw [catL_eq xss n, List.range_succ, List.flatMap_append]
    simp
theorem cat_run (xss : List Value) (hx : xss.length ≤ 3) (hl : ∀ i, i < xss.length → (eL xss i).length ≤ 1000000) : runP std (growCon std) 40 (catLs xss (fun d => d.n = xss.length ∧ ∃ i : Nat, d.i = i ∧ i ≤ xss.length ∧ d.s = sumL xss i) (fun d => (d.n - d.i).toNat) (fun d => d.n = xss.length ∧ ∃ i : Nat, d.i = i ∧ i ≤ xss.length ∧ d.r = catL xss i) fun d => (d.n - d.i).toNat) (catP std kvF) 27 Try.f27 (xss, ()) := by
  rw [cat_vc]
  refine ⟨⟨0, xss.length, 0⟩, rfl, ⟨rfl, 0, rfl, Nat.zero_le _, rfl⟩, fun d ⟨hn, i, hi, hle, hs⟩ => ⟨fun h => ?_, fun h => ?_⟩⟩
  · have h := of_decide_eq_true h
    have h1 := hl i (by omega)
    have h2 := sumL_le hl i hle
    rw [hi, Int.toNat_natCast, hs]
    refine ⟨by omega, by omega, fun e => ?_, fun e => ⟨by omega, ⟨sumL xss i + (eL xss i).length, d.n, (i : Int) + 1⟩, rfl, ?_, hn, i + 1, rfl, by omega, rfl⟩⟩
    · have e := of_decide_eq_true e
      omega
    · show (d.n - ((i : Int) + 1)).toNat + 1 ≤ (d.n - (i : Int)).toNat
      omega
  · have h := of_decide_eq_false h
    have h2 := sumL_le hl i hle
    refine ⟨by omega, ⟨[], xss.length, 0⟩, rfl, ⟨rfl, 0, rfl, Nat.zero_le _, rfl⟩, fun d ⟨hn, i, hi, hle, hr⟩ => ⟨fun h => ?_, fun h => ?_⟩⟩
    · have h := of_decide_eq_true h
      have h1 := hl i (by omega)
      have h2 := sumL_le hl i hle
      rw [hi, Int.toNat_natCast, hr]
      refine ⟨by omega, ?_, by omega, ⟨catL xss i ++ eL xss i, d.n, (i : Int) + 1⟩, rfl, ?_, hn, i + 1, rfl, by omega, rfl⟩
      · rw [List.length_append, catL_len]; omega
      · show (d.n - ((i : Int) + 1)).toNat + 1 ≤ (d.n - (i : Int)).toNat
        omega
    · have h := of_decide_eq_false h
      rw [hr, show i = xss.length by omega]
      show [dsl zP (catL xss xss.length)] = [dsl zP (catF xss)]
      rw [catL_eq]; rfl
theorem clone_run (xs : List Value) (h0 : xs ≠ []) (hx : xs.length ≤ 1000000) : runP std noCon 40 noL (cloneP std) 28 Try.f28 (xs, ()) := by
  rw [clone_vc]
  exact ⟨List.length_pos_iff.2 h0, by omega, rfl⟩
theorem key_run (n : Int) (hn : -9223372036854775808 ≤ n ∧ n ≤ 9223372036854775807) : Holds (runP std (withinCon std) 40 noL (keyP std kvF) 15 Try.f15 (n, ())) := by
  constructor
  rw [key_vc]
  refine ⟨hn, fun r h1 h2 => ⟨⟨h1.1, ?_⟩, ?_⟩⟩
  · show r < 12
    omega
  · rw [show r = n % 12 by omega]; rfl
theorem txt_run (n : Int) (hn : -9223372036854775808 ≤ n ∧ n ≤ 9223372036854775807) : Holds (runP std (withinCon std) 40 noL (txtP std kvF) 16 Try.f16 (n, ())) := by
  constructor
  rw [txt_vc]
  refine ⟨hn, fun r h1 h2 => ⟨⟨h1.1, ?_⟩, ?_⟩⟩
  · show r < 5
    omega
  · rw [show r = n % 5 by omega]; rfl
theorem len3 {a b c : List Value} (ha : a.length ≤ 1000000) (hb : b.length ≤ 1000000) (hc : c.length ≤ 1000000) : ∀ i : Nat, i < 3 → (eL [dsl zP a, dsl zP b, dsl zP c] i).length ≤ 1000000
  | 0, _ => by show (dels (dsl zP a)).length ≤ _; rw [dels_dsl]; exact ha
  | 1, _ => by show (dels (dsl zP b)).length ≤ _; rw [dels_dsl]; exact hb
  | 2, _ => by show (dels (dsl zP c)).length ≤ _; rw [dels_dsl]; exact hc
  | _ + 3, h => by omega
theorem len2 {a b : List Value} (ha : a.length ≤ 1000000) (hb : b.length ≤ 1000000) : ∀ i : Nat, i < 2 → (eL [dsl zP a, dsl zP b] i).length ≤ 1000000
  | 0, _ => by show (dels (dsl zP a)).length ≤ _; rw [dels_dsl]; exact ha
  | 1, _ => by show (dels (dsl zP b)).length ≤ _; rw [dels_dsl]; exact hb
  | _ + 2, h => by omega
theorem take_len {xs : List Value} (hx : xs.length ≤ 1000000) (i j : Nat) : (List.take i (List.drop j xs)).length ≤ 1000000 := by
  rw [List.length_take, List.length_drop]; omega
theorem take_rest (xs : List Value) (j : Nat) : List.take (xs.length - j) (List.drop j xs) = xs.drop j := List.take_of_length_le (by rw [List.length_drop]; omega)
theorem set_run (xs : List Value) (k v : ByteArray) (hx : xs.length ≤ 1000000) : runP std (setCon std kvF) 40 noL (setP std kvF) 7 Try.f7 (xs, (k, v, ()), ()) := by
  rw [set_vc]
  have hr := bsF_range xs k
  have no : setokF xs k v = false → ([dsl zP xs, Value.bool false] = [dsl zP (setF xs k v), Value.bool (setokF xs k v)]) := fun h => by
    unfold setF
    rw [if_neg (by rw [h]; exact Bool.false_ne_true), h]
  have yes : ∀ j : Nat, setokF xs k v = true → j = (if fdF xs k then (bsF xs k).toNat + 1 else (bsF xs k).toNat) → ([dsl zP (catF [dsl zP (List.take ((bsF xs k).toNat - 0) (List.drop 0 xs)), dsl zP [prV k v], dsl zP (List.take (xs.length - j) (List.drop j xs))]), Value.bool true] = [dsl zP (setF xs k v), Value.bool (setokF xs k v)]) := fun j h hj => by
    unfold setF
    rw [if_pos h, h, catF3, take_rest, hj, Nat.sub_zero, List.drop_zero]; rfl
  refine ⟨hx, fun h1 => ⟨trivial, fun h2 => ⟨⟨hr, trivial⟩, ?_, ⟨trivial, ?_⟩, ⟨Nat.le_refl 3, len3 (take_len hx _ _) (Nat.le_of_ble_eq_true rfl) (take_len hx _ _)⟩, yes _ ?_ ?_⟩, fun h2 => no ?_⟩, fun h1 => ⟨trivial, fun h2 => ⟨fun h3 => no ?_, fun h3 => ⟨⟨hr, trivial⟩, ⟨trivial, hr⟩, ⟨Nat.le_refl 3, len3 (take_len hx _ _) (Nat.le_of_ble_eq_true rfl) (take_len hx _ _)⟩, yes _ ?_ ?_⟩⟩, fun h2 => no ?_⟩⟩
  · have := fd_lt h1
    show -9223372036854775808 ≤ bsF xs k + 1 ∧ bsF xs k + 1 ≤ 9223372036854775807
    omega
  · have := fd_lt h1
    show 0 ≤ bsF xs k + 1 ∧ bsF xs k + 1 ≤ (xs.length : Int)
    omega
  · unfold setokF
    rw [show mayF k v = true from h2, show fdF xs k = true from h1]; rfl
  · rw [if_pos (show fdF xs k = true from h1)]
    show (bsF xs k + 1).toNat = _
    omega
  · unfold setokF
    rw [show mayF k v = false from h2]; rfl
  · have h3 := of_decide_eq_true h3
    unfold setokF
    rw [show fdF xs k = false from h1, decide_eq_false (by omega), show mayF k v = true from h2]; rfl
  · have h3 := of_decide_eq_false h3
    unfold setokF
    rw [show fdF xs k = false from h1, decide_eq_true (by omega), show mayF k v = true from h2]; rfl
  · rw [if_neg (by rw [show fdF xs k = false from h1]; exact Bool.false_ne_true)]; rfl
  · unfold setokF
    rw [show mayF k v = false from h2]; rfl
theorem del_run (xs : List Value) (k : ByteArray) (hx : xs.length ≤ 1000000) : runP std (setCon std kvF) 40 noL (delP std kvF) 9 Try.f9 (xs, k, ()) := by
  rw [del_vc]
  have hr := bsF_range xs k
  refine ⟨hx, fun h1 => ⟨⟨hr, trivial⟩, ?_, ⟨trivial, ?_⟩, ⟨Nat.le_of_ble_eq_true rfl, len2 (take_len hx _ _) (take_len hx _ _)⟩, ?_⟩, fun h1 => ?_⟩
  · have := fd_lt h1
    show -9223372036854775808 ≤ bsF xs k + 1 ∧ bsF xs k + 1 ≤ 9223372036854775807
    omega
  · have := fd_lt h1
    show 0 ≤ bsF xs k + 1 ∧ bsF xs k + 1 ≤ (xs.length : Int)
    omega
  · show [dsl zP (catF [dsl zP (List.take ((bsF xs k).toNat - 0) (List.drop 0 xs)), dsl zP (List.take (xs.length - (bsF xs k + 1).toNat) (List.drop (bsF xs k + 1).toNat xs))])] = [dsl zP (dropF xs k)]
    unfold dropF
    rw [if_pos (show fdF xs k = true from h1), catF2, take_rest, Nat.sub_zero, List.drop_zero, show (bsF xs k + 1).toNat = (bsF xs k).toNat + 1 by omega]
  · show [dsl zP xs] = [dsl zP (dropF xs k)]
    unfold dropF
    rw [if_neg (by rw [show fdF xs k = false from h1]; exact Bool.false_ne_true)]
theorem imax_max (a b : Int) : std.imax a b = max a b := by
  show (if b > a then b else a) = max a b
  rw [Int.max_def]
  split <;> split <;> omega
theorem rng_run (xs : List Value) (a b : ByteArray) (hx : xs.length ≤ 1000000) : runP std (rngCon std kvF) 40 noL (rngP std kvF) 8 Try.f8 (xs, a, b, ()) := by
  rw [rng_vc]
  have h1 := bsF_range xs a
  have h2 := bsF_range xs b
  have key : (((0 ≤ std.imax (kvF.bs xs a) (kvF.bs xs b) ∧ std.imax (kvF.bs xs a) (kvF.bs xs b) ≤ (xs.length : Int)) ∧ 0 ≤ kvF.bs xs a ∧ kvF.bs xs a ≤ ((std.imax (kvF.bs xs a) (kvF.bs xs b)).toNat : Int)) ∧
      (List.take ((std.imax (kvF.bs xs a) (kvF.bs xs b)).toNat - (kvF.bs xs a).toNat) (List.drop (kvF.bs xs a).toNat xs)).length ≤ 1000000 ∧
      [dsl zP (List.take ((std.imax (kvF.bs xs a) (kvF.bs xs b)).toNat - (kvF.bs xs a).toNat) (List.drop (kvF.bs xs a).toNat xs))] = [dsl zP (kvF.rng xs a b)]) := by
    refine ⟨?_, take_len hx _ _, ?_⟩
    · rw [imax_max]
      show (0 ≤ max (bsF xs a) (bsF xs b) ∧ max (bsF xs a) (bsF xs b) ≤ (xs.length : Int)) ∧ 0 ≤ bsF xs a ∧ bsF xs a ≤ ((max (bsF xs a) (bsF xs b)).toNat : Int)
      omega
    · rw [imax_max]; rfl
  exact ⟨hx, fun _ => ⟨hx, fun _ => key, fun _ => key⟩, fun _ => ⟨hx, fun _ => key, fun _ => key⟩⟩
end Go.Proofs.Ytolkoacllaaceaa
