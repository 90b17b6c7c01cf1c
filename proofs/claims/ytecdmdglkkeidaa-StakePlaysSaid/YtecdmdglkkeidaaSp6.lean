/-
  RECORDS: their functions' texts answered; numbers come back out of their bytes.
-/
import Derived.Test.YtecdmdglkkeidaaSp5
import Derived.ChangeSlices
import Derived.ChangeBears
import Derived.OpenShut
section
namespace Go.Proofs.Ytecdmdglkkeidaa
open Go.RowKit Go.Abs Go
theorem rcd_run (a b : Int) : runP std (rcdCon std stF) 60 noL (rcdP std stF) 13 Try.f13 (a, b, ()) := by
  rw [rcd_vc]
  have no : (isA a && isA b) = false → [Value.string ⟨#[]⟩] = [Value.string (rcdF a b)] := fun h => by
    unfold rcdF; rw [h]; rfl
  refine ⟨fun h1 => ⟨fun h2 => ⟨fun h3 => ⟨fun h4 => ⟨⟨?_, fun i9 h5 => ?_⟩, ?_⟩, fun h6 => no ?_⟩, fun h7 => no ?_⟩, fun h8 => no ?_⟩, fun h9 => no ?_⟩
  · show 2 ≤ 1000000; omega
  · have h1 := of_decide_eq_true h1; have h2 := of_decide_eq_true h2; have h3 := of_decide_eq_true h3; have h4 := of_decide_eq_true h4
    match i9, h5 with
    | 0, _ => show -9223372036854775808 ≤ a ∧ a ≤ 9223372036854775807; omega
    | 1, _ => show -9223372036854775808 ≤ b ∧ b ≤ 9223372036854775807; omega
    | n + 2, h => exact absurd h (by simp)
  · show [Value.string (recB a b)] = [Value.string (rcdF a b)]
    unfold rcdF isA
    rw [h1, h2, h3, h4]; rfl
  · unfold isA; rw [h6]; simp
  · unfold isA; rw [h7]; simp
  · unfold isA; rw [h8]; simp
  · unfold isA; rw [h9]; simp
theorem rput_run (k k' n : Int) (hn : 128 ≤ n → n / 128 ≤ k) : runP std (rputCon std stF k) 60 noL (rputP std stF k') 48 Try.f48 (n, ()) := by
  have e : runP std (rputCon std stF k) 60 noL (rputP std stF k') 48 Try.f48 (n, ()) = runP std (rputCon std stF k) 60 noL (rputP std stF k) 48 Try.f48 (n, ()) := rfl
  rw [e, rput_vc]
  have no : ¬ (0 ≤ n ∧ n ≤ 1099511627775) → [] = stF.rput n := fun h => by
    show [] = one1F n
    unfold one1F; rw [if_neg h]
  refine ⟨fun h1 => no ?_, fun h2 => ⟨fun h3 => no ?_, fun h4 => ⟨fun h5 => ?_, fun h6 => ?_⟩⟩⟩
  · have := of_decide_eq_true h1; omega
  · have := of_decide_eq_true h3; omega
  · have h2 := of_decide_eq_false h2; have h4 := of_decide_eq_false h4; have h5 := of_decide_eq_true h5
    show _ = one1F n
    rw [one1_step (by omega) (by omega), if_neg (by omega)]
  · have h2 := of_decide_eq_false h2; have h4 := of_decide_eq_false h4; have h6 := of_decide_eq_false h6
    have hl := one1_len (n / 128)
    rw [shr7']
    refine ⟨by omega, ⟨by omega, hn (by omega)⟩, ?_, ?_⟩
    · show (([_] ++ one1F (n / 128)).length) * 1 ≤ _
      rw [List.length_append]; simp only [List.length_cons, List.length_nil]; omega
    · show [_] ++ one1F (n / 128) = one1F n
      rw [one1_step (n := n) (by omega) (by omega), if_pos (by omega)]; rfl
theorem rrcd_run (k a b : Int) (ha : -9223372036854775808 ≤ a ∧ a ≤ 9223372036854775807) (hb : -9223372036854775808 ≤ b ∧ b ≤ 9223372036854775807) (hk : 9223372036854775807 ≤ k) : runP std (rputCon std stF k) 60 noL (rrcdP std stF) 37 Try.f37 (a, b, ()) := by
  rw [rrcd_vc]
  refine ⟨⟨ha, by omega⟩, ⟨hb, by omega⟩, ?_, rfl⟩
  have h1 := one1_len a
  have h2 := one1_len b
  show (one1F a ++ one1F b).length * 1 ≤ _
  rw [List.length_append]; omega
theorem svals_get (s : ByteArray) (i : Nat) : eB (std.svals s) i = std.sget s i := by
  show dint ((s.data.toList.map fun b => Value.int .u8 b.toNat).getD i (.int .u8 0)) = ((s.data.toList.getD i 0).toNat : Int)
  rw [List.getD_eq_getElem?_getD, List.getD_eq_getElem?_getD, List.getElem?_map]
  cases s.data.toList[i]? <;> rfl
theorem wrap_u64 {n : Int} (h : 0 ≤ n ∧ n < 18446744073709551616) : std.wrap .u64 n = n := by
  rw [wrapu]; omega
def nmI (s : ByteArray) (d : NmL) : Prop := ∃ i : Nat, d.i = i ∧ i ≤ 6 ∧ i ≤ lenB s ∧ 0 ≤ d.n ∧ d.n < 4398046511104 ∧ numG (6 - i) (7 * i) d.n ((std.svals s).drop i) false = rd1 s
theorem nm_run (s : ByteArray) (hs : lenB s ≤ 4000000) : runP std noCon 60 (nmLs s (nmI s) fun d => (6 - d.i).toNat) (nmP std stF) 42 Try.f42 (s, ()) := by
  rw [nm_vc]
  have hl : (std.svals s).length = lenB s := List.length_map ..
  have no : (rd1 s).2.2 = true → (rd1 s).1 = 0 → [Value.int .i64 0, Value.int .i64 0] = [Value.int .i64 (nvalF s), Value.int .i64 (nlenF s)] := fun h h0 => by
    unfold nvalF nlenF; rw [h, h0]; rfl
  have yes : ∀ (v : Int) (r : List Value) (j : Nat), rd1 s = (v, (std.svals s).drop j, false) → j ≤ lenB s → [Value.int .i64 v, Value.int .i64 (j : Int)] = [Value.int .i64 (nvalF s), Value.int .i64 (nlenF s)] := fun v r j h hj => by
    unfold nvalF nlenF
    rw [h]
    simp only [List.length_drop, hl]
    rw [if_neg Bool.false_ne_true, show (lenB s : Int) - ((lenB s - j : Nat) : Int) = j by omega]
  refine ⟨⟨0, 0⟩, rfl, ⟨0, rfl, by omega, by omega, by show (0 : Int) ≤ 0; omega, by show (0 : Int) < _; omega, rfl⟩, fun ⟨dn, di⟩ ⟨i, hi, h6, hle, n0, n1, hg⟩ => ?_⟩
  dsimp only at hi n0 n1 hg ⊢
  subst hi
  refine ⟨fun h2 => ⟨fun h3 => ?_, fun h14 => ?_⟩, fun h15 => ?_⟩
  · have h2 : (i : Int) < (lenB s : Int) := of_decide_eq_true h2
    have h3 := of_decide_eq_true h3
    have hlt : i < (std.svals s).length := by omega
    rw [show 6 - i = (6 - (i + 1)) + 1 by omega, List.drop_eq_getElem_cons hlt] at hg
    unfold numG at hg
    rw [if_neg Bool.false_ne_true] at hg
    simp only at hg
    have hy : dint (std.svals s)[i] = std.sget s i := by
      rw [← svals_get]; unfold eB; rw [List.getD_eq_getElem?_getD, List.getElem?_eq_getElem hlt]; rfl
    rw [hy] at hg
    rw [Int.toNat_natCast, wrap_u64 (n := 7 * (i : Int)) (by omega)]
    have e4 : std.bor .i64 dn (std.shl .i64 (std.wrap .i64 (std.band .u8 (std.sget s i) 127)) (7 * i)) = bits7 dn (std.sget s i) (7 * i) := rfl
    rw [e4]
    have hb := bits_nn (n := dn) (y := std.sget s i) (s := 7 * i) ⟨n0, n1⟩ (by omega)
    refine ⟨⟨by omega, h2⟩, by omega, by omega, ⟨by omega, h2⟩, fun h4 => ?_, fun h13 => ?_⟩
    · have h4 := of_decide_eq_true h4
      rw [if_pos h4] at hg
      refine ⟨fun h5 => ⟨⟨by omega, h2⟩, fun h6 => ?_, fun h7 => ⟨fun h8 => ?_, fun h9 => ⟨by omega, ?_⟩⟩⟩, fun h10 => ⟨fun h11 => ?_, fun h12 => ⟨by omega, ?_⟩⟩⟩
      · have h5 := of_decide_eq_true h5
        have h6 : std.sget s i = 0 := by simpa using h6
        rw [if_pos (.inr ⟨h6, by omega⟩)] at hg
        exact no (by rw [← hg]) (by rw [← hg])
      · rw [if_pos (.inl (of_decide_eq_true h8))] at hg
        exact no (by rw [← hg]) (by rw [← hg])
      · have h7 : ¬ std.sget s i = 0 := by simpa using h7
        have h9 := of_decide_eq_false h9
        rw [if_neg (by omega)] at hg
        exact yes _ [] (i + 1) hg.symm (by omega)
      · rw [if_pos (.inl (of_decide_eq_true h11))] at hg
        exact no (by rw [← hg]) (by rw [← hg])
      · have h10 := of_decide_eq_false h10
        have h12 := of_decide_eq_false h12
        rw [if_neg (by omega)] at hg
        exact yes _ [] (i + 1) hg.symm (by omega)
    · rw [if_neg (of_decide_eq_false h13)] at hg
      refine ⟨by omega, ⟨_, _⟩, rfl, ?_, i + 1, rfl, by omega, by omega, hb.1, hb.2, ?_⟩
      · show (6 - ((i : Int) + 1)).toNat + 1 ≤ (6 - (i : Int)).toNat; omega
      · rw [← hg, show (7 * ((i + 1 : Nat) : Int)) = 7 * (i : Int) + 7 by omega]; rfl
  · have h14 := of_decide_eq_false h14
    rw [show 6 - i = 0 by omega] at hg
    exact no (by rw [← hg]; rfl) (by rw [← hg]; rfl)
  · have h15 : ¬ (i : Int) < (lenB s : Int) := of_decide_eq_false h15
    rw [List.drop_eq_nil_of_le (by omega)] at hg
    cases h : 6 - i with
    | zero => rw [h] at hg; exact no (by rw [← hg]; rfl) (by rw [← hg]; rfl)
    | succ f => rw [h] at hg; exact no (by rw [← hg]; rfl) (by rw [← hg]; rfl)
/-- What is read of a part. -/
theorem svals_sub (s : ByteArray) (k : Nat) : std.svals (std.ssub s k (std.slen s)) = (std.svals s).drop k := by
  show ((s.data.toList.drop k).take (s.data.toList.length - k)).map _ = (s.data.toList.map _).drop k
  rw [List.take_of_length_le (by rw [List.length_drop]; omega), List.map_drop]
theorem rd1_spec (s : ByteArray) : 0 ≤ (rd1 s).1 ∧ (rd1 s).1 ≤ 1099511627775 ∧ ∃ k, (rd1 s).2.1 = (std.svals s).drop k ∧ k ≤ lenB s ∧ ((rd1 s).2.2 = false → 1 ≤ k) := by
  obtain ⟨h1, h2, k, h3, h4, h5⟩ := numG_nn 6 0 0 (std.svals s) false (by omega) (by omega) (by omega)
  have hl : (std.svals s).length = lenB s := List.length_map ..
  exact ⟨h1, h2, k, h3, by omega, h5⟩
theorem rd2_nn (s : ByteArray) : 0 ≤ (rd2 s).1 := (numG_nn 6 0 0 _ _ (by omega) (by omega) (by omega)).1
theorem numG_bad (xs : List Value) : numG 6 0 0 xs true = (0, xs, true) := rfl
theorem qrd_run (s : ByteArray) (hs : lenB s ≤ 4000000) : runP std (nmCon std stF) 60 noL (qrdP std stF) 21 Try.f21 (s, ()) := by
  rw [qrd_vc]
  have hl : (std.svals s).length = lenB s := List.length_map ..
  obtain ⟨a1, a2, k, a3, a4, a5⟩ := rd1_spec s
  have no : rokF s = false → [Value.int .i64 0, Value.int .i64 0, Value.bool false] = [Value.int .i64 (rtokF s), Value.int .i64 (rrewF s), Value.bool (rokF s)] := fun h => by
    unfold rtokF rrewF; rw [h]; rfl
  have yes : rokF s = true → [Value.int .i64 (rd1 s).1, Value.int .i64 (rd2 s).1, Value.bool true] = [Value.int .i64 (rtokF s), Value.int .i64 (rrewF s), Value.bool (rokF s)] := fun h => by
    unfold rtokF rrewF; rw [h]; rfl
  have hno2 : (rd1 s).2.2 = true → rokF s = false := fun h => by
    unfold rokF rd2; rw [h, numG_bad]; rfl
  cases hb : (rd1 s).2.2 with
  | true =>
    have e : stF.nlen s = 0 := by show nlenF s = 0; unfold nlenF; rw [hb]; rfl
    refine ⟨hs, fun _ => no (hno2 hb), fun h2 => ?_⟩
    rw [e] at h2; cases h2
  | false =>
    have k1 := a5 hb
    have e : stF.nlen s = (k : Int) := by
      show nlenF s = _
      unfold nlenF
      rw [hb, a3, List.length_drop, hl, if_neg Bool.false_ne_true]; omega
    have ev : stF.nval s = (rd1 s).1 := rfl
    rw [e, Int.toNat_natCast, ev]
    have hsub : std.svals (std.ssub s k (std.slen s)) = (rd1 s).2.1 := by rw [svals_sub, a3]
    have hd2 : rd1 (std.ssub s k (std.slen s)) = rd2 s := by unfold rd1 rd2; rw [hsub, hb]
    have hsl : lenB (std.ssub s k (std.slen s)) = lenB s - k := by
      have := congrArg List.length hsub
      rw [a3, List.length_drop, hl] at this
      rw [← this]; exact (List.length_map ..).symm
    generalize hsb : std.ssub s k (std.slen s) = s2 at hsub hd2 hsl ⊢
    obtain ⟨b1, b2, j, b3, b4, b5⟩ := rd1_spec s2
    rw [hd2] at b1 b2 b3 b5
    have hl2 : (std.svals s2).length = lenB s2 := List.length_map ..
    refine ⟨hs, fun h1 => absurd h1 (by simp; omega), fun _ => ⟨⟨trivial, by omega, by show (k : Int) ≤ (lenB s : Int); omega⟩, by show lenB s2 ≤ _; omega, ?_⟩⟩
    have ev2 : stF.nval s2 = (rd2 s).1 := by show (rd1 s2).1 = _; rw [hd2]
    rw [ev2]
    cases hb2 : (rd2 s).2.2 with
    | true =>
      have e2 : stF.nlen s2 = 0 := by show nlenF s2 = 0; unfold nlenF; rw [hd2, hb2]; rfl
      rw [e2]
      refine ⟨fun _ => no ?_, fun h => ?_⟩
      · unfold rokF; rw [hb2]; rfl
      · cases h
    | false =>
      have j1 := b5 hb2
      have e2 : stF.nlen s2 = (j : Int) := by
        show nlenF s2 = _
        unfold nlenF
        rw [hd2, hb2, b3, List.length_drop, hl2, if_neg Bool.false_ne_true]; omega
      rw [e2]
      have hrest : ((rd2 s).2.1.length : Int) = (lenB s : Int) - k - j := by rw [b3, List.length_drop, hl2, hsl]; omega
      refine ⟨fun h3 => absurd h3 (by simp; omega), fun _ => ⟨by omega, fun h5 => no ?_, fun h6 => ⟨fun h7 => no ?_, fun h8 => ⟨fun h9 => no ?_, fun h10 => yes ?_⟩⟩⟩⟩
      all_goals unfold rokF
      · have h5 : (!(((k : Int) + j) == (lenB s : Int))) = true := h5
        have : ((rd2 s).2.1.length : Int) ≠ 0 := by simp at h5; omega
        rw [show (((rd2 s).2.1.length : Int) == 0) = false by simpa using this]; simp
      · rw [show decide ((rd1 s).1 ≤ 1073741824) = false from decide_eq_false (by have := of_decide_eq_true h7; omega)]; simp
      · rw [show decide ((rd2 s).1 ≤ 1073741824) = false from decide_eq_false (by have := of_decide_eq_true h9; omega)]; simp
      · have h6 : (!(((k : Int) + j) == (lenB s : Int))) = false := h6
        have h8 := of_decide_eq_false h8
        have h10 := of_decide_eq_false h10
        have : ((rd2 s).2.1.length : Int) = 0 := by simp at h6; omega
        rw [hb2, this, decide_eq_true a1, decide_eq_true (show (rd1 s).1 ≤ 1073741824 by omega), decide_eq_true b1, decide_eq_true (show (rd2 s).1 ≤ 1073741824 by omega)]; rfl
theorem rtok_range (s : ByteArray) : 0 ≤ rtokF s ∧ rtokF s ≤ 1073741824 ∧ 0 ≤ rrewF s ∧ rrewF s ≤ 1073741824 := by
  unfold rtokF rrewF
  split
  · rename_i h
    unfold rokF at h
    simp only [Bool.and_eq_true, decide_eq_true_eq] at h
    omega
  · omega
theorem bkSum_range (xs : List Value) : ∀ i a, bkSumL xs i = some a → 0 ≤ a ∧ a ≤ i * 2147483648
  | 0, a, h => by cases h; omega
  | i + 1, a, h => by
    unfold bkSumL at h
    split at h
    · cases h
    · rename_i a0 h0
      have := bkSum_range xs i a0 h0
      have hr := rtok_range (vP xs i)
      split at h
      · split at h
        · cases h; omega
        · cases h
      · cases h; omega
def bckI (xs : List Value) (d : BkL) : Prop := d.n = xs.length ∧ ∃ i : Nat, d.i = i ∧ i ≤ xs.length ∧ bkSumL xs i = some d.a
theorem sum_none {xs : List Value} : ∀ {j i : Nat}, i ≤ j → bkSumL xs i = none → bkSumL xs j = none
  | 0, i, h, hn => by rw [show i = 0 by omega] at hn; exact hn
  | j + 1, i, h, hn => by
    by_cases e : i = j + 1
    · subst e; exact hn
    · have := sum_none (j := j) (i := i) (by omega) hn
      unfold bkSumL; rw [this]
theorem bck_core (xs : List Value) {d : BkL} (hI : bckI xs d) :
    (∀ {P : Prop}, d.i < d.n → (isF (kP xs d.i.toNat) = true → rokF (vP xs d.i.toNat) = true → bckI xs ⟨d.a + (rtokF (vP xs d.i.toNat) + rrewF (vP xs d.i.toNat)), d.n, d.i + 1⟩ → P) → (isF (kP xs d.i.toNat) = true → rokF (vP xs d.i.toNat) = false → bckF xs = 0 ∧ bokF xs = false → P) → (isF (kP xs d.i.toNat) = false → bckI xs ⟨d.a, d.n, d.i + 1⟩ → P) → P) ∧
    (¬ d.i < d.n → 0 ≤ d.a ∧ ((d.a ≤ 1073741824 ∧ bckF xs = d.a ∧ bokF xs = true) ∨ (¬ d.a ≤ 1073741824 ∧ bckF xs = 0 ∧ bokF xs = false))) := by
  obtain ⟨hn, i, hi, hle, hs⟩ := hI
  refine ⟨fun {P} h h1 h2 h3 => ?_, fun h => ?_⟩
  · have hlt : i < xs.length := by omega
    rw [show d.i.toNat = i by omega] at h1 h2 h3
    have hnx : bkSumL xs (i + 1) = if isF (kP xs i) then (if rokF (vP xs i) then some (d.a + (rtokF (vP xs i) + rrewF (vP xs i))) else none) else some d.a := by
      conv => lhs; unfold bkSumL
      rw [hs]
    cases hf : isF (kP xs i) with
    | false =>
      rw [hf, if_neg Bool.false_ne_true] at hnx
      exact h3 hf ⟨hn, i + 1, by show d.i + 1 = _; omega, hlt, hnx⟩
    | true =>
      rw [hf, if_pos rfl] at hnx
      cases hr : rokF (vP xs i) with
      | true =>
        rw [hr, if_pos rfl] at hnx
        exact h1 hf hr ⟨hn, i + 1, by show d.i + 1 = _; omega, hlt, hnx⟩
      | false =>
        rw [hr, if_neg Bool.false_ne_true] at hnx
        have := sum_none (j := xs.length) hlt hnx
        exact h2 hf hr (by unfold bckF bokF; rw [this]; exact ⟨rfl, rfl⟩)
  · have e : i = xs.length := by omega
    subst e
    have := bkSum_range xs _ _ hs
    refine ⟨this.1, ?_⟩
    unfold bckF bokF
    rw [hs]
    by_cases c : d.a ≤ 1073741824
    · left; exact ⟨c, if_pos c, decide_eq_true c⟩
    · right; exact ⟨c, if_neg c, decide_eq_false c⟩
end Go.Proofs.Ytecdmdglkkeidaa
end
section
namespace Go.Proofs.Ytecdmdglkkeidaa
open Go.RowKit Go.Abs Go
theorem is_key {k : ByteArray} : isF k = (decide ((2 : Int) ≤ (std.slen k : Int)) && std.seq (std.ssub k 0 2) ⟨#[115, 47]⟩) := rfl
theorem bck_run (xs : List Value) (hx : xs.length ≤ 1000000) (hv : ∀ i, i < xs.length → lenB (vP xs i) ≤ 4000000) : runP std (bckCon std stF) 60 (bckLs 39 xs (bckI xs) fun d => (d.n - d.i).toNat) (bckP std stF) 12 Try.f12 (xs, ()) := by
  rw [bck_vc]
  refine ⟨⟨0, xs.length, 0⟩, rfl, ⟨rfl, 0, rfl, Nat.zero_le _, rfl⟩, fun d hI => ?_⟩
  obtain ⟨c1, c2⟩ := bck_core xs hI
  obtain ⟨hn, i, hi, hle, hs⟩ := hI
  have hr := bkSum_range xs _ _ hs
  refine ⟨fun h => ?_, fun h9 => ?_⟩
  · have h := of_decide_eq_true h
    have hlt : i < xs.length := by omega
    have hvi := hv i hlt
    have ht := rtok_range (vP xs i)
    have e : d.i.toNat = i := by omega
    rw [e] at c1 ⊢
    have next : ∀ a : Int, bckI xs ⟨a, d.n, d.i + 1⟩ → (-9223372036854775808 ≤ d.i + 1 ∧ d.i + 1 ≤ 9223372036854775807) ∧ ∃ d' : BkL, [Filler.val (.int .i64 d'.a), .dl xs, .val (.int .i64 d'.n), .val (.int .i64 d'.i)] = [Filler.val (.int .i64 a), .dl xs, .val (.int .i64 d.n), .val (.int .i64 (d.i + 1))] ∧ Nat.le (Nat.succ (d'.n - d'.i).toNat) (d.n - d.i).toNat ∧ bckI xs d' := fun a ha => by
      refine ⟨by omega, ⟨a, d.n, d.i + 1⟩, rfl, ?_, ha⟩
      show (d.n - (d.i + 1)).toNat + 1 ≤ (d.n - d.i).toNat; omega
    have b0 : d.a ≤ 2147483648000000 := by omega
    refine ⟨by omega, fun h3 => ⟨⟨by have h3 : (2 : Int) ≤ (lenB (kP xs i) : Int) := of_decide_eq_true h3; exact ⟨by omega, h3⟩, trivial⟩, fun h4 => ⟨hvi, fun h5 => ⟨by show -9223372036854775808 ≤ rtokF (vP xs i) + rrewF (vP xs i) ∧ rtokF (vP xs i) + rrewF (vP xs i) ≤ _; omega, by show -9223372036854775808 ≤ d.a + (rtokF (vP xs i) + rrewF (vP xs i)) ∧ d.a + (rtokF (vP xs i) + rrewF (vP xs i)) ≤ _; omega, ?_⟩, fun h6 => ?_⟩, fun h7 => ?_⟩, fun h8 => ?_⟩
    · have hf : isF (kP xs i) = true := by rw [is_key, h3]; exact h4
      exact c1 h (fun _ _ h => next _ h) (fun _ h => absurd h (by rw [show rokF (vP xs i) = true from h5]; exact Bool.noConfusion)) fun h => absurd h (by rw [hf]; exact Bool.noConfusion)
    · have hf : isF (kP xs i) = true := by rw [is_key, h3]; exact h4
      refine c1 h (fun _ h => absurd h (by rw [show rokF (vP xs i) = false from h6]; exact Bool.noConfusion)) (fun _ _ ⟨h1, h2⟩ => ?_) fun h => absurd h (by rw [hf]; exact Bool.noConfusion)
      show _ = [Value.int .i64 (bckF xs), Value.bool (bokF xs)]
      rw [h1, h2]
    · have hf : isF (kP xs i) = false := by rw [is_key, h3]; exact h7
      exact c1 h (fun h => absurd h (by rw [hf]; exact Bool.noConfusion)) (fun h => absurd h (by rw [hf]; exact Bool.noConfusion)) fun _ h => next _ h
    · have hf : isF (kP xs i) = false := by rw [is_key, h8]; rfl
      exact c1 h (fun h => absurd h (by rw [hf]; exact Bool.noConfusion)) (fun h => absurd h (by rw [hf]; exact Bool.noConfusion)) fun _ h => next _ h
  · have h9 := of_decide_eq_false h9
    obtain ⟨p0, p1⟩ := c2 h9
    refine ⟨fun h10 => ⟨fun h11 => ?_, fun h12 => ?_⟩, fun h13 => absurd (of_decide_eq_false h13) (by omega)⟩
    · have h11 := of_decide_eq_true h11
      rcases p1 with ⟨_, h1, h2⟩ | ⟨h, _⟩
      · show _ = [Value.int .i64 (bckF xs), Value.bool (bokF xs)]; rw [h1, h2]
      · exact absurd h11 h
    · have h12 := of_decide_eq_false h12
      rcases p1 with ⟨h, _⟩ | ⟨_, h1, h2⟩
      · exact absurd h h12
      · show _ = [Value.int .i64 (bckF xs), Value.bool (bokF xs)]; rw [h1, h2]
theorem rbck_run (xs : List Value) (hx : xs.length ≤ 1000000) (hv : ∀ i, i < xs.length → lenB (vP xs i) ≤ 4000000) : runP std (rbckCon std stF) 60 (bckLs 38 xs (bckI xs) fun d => (d.n - d.i).toNat) (rbckP std stF) 18 Try.f18 (xs, ()) := by
  rw [rbck_vc]
  refine ⟨⟨0, xs.length, 0⟩, rfl, ⟨rfl, 0, rfl, Nat.zero_le _, rfl⟩, fun d hI => ?_⟩
  obtain ⟨c1, c2⟩ := bck_core xs hI
  obtain ⟨hn, i, hi, hle, hs⟩ := hI
  have hr := bkSum_range xs _ _ hs
  refine ⟨fun h => ?_, fun h9 => ?_⟩
  · have h := of_decide_eq_true h
    have hlt : i < xs.length := by omega
    have hvi := hv i hlt
    have ht := rtok_range (vP xs i)
    have e : d.i.toNat = i := by omega
    rw [e] at c1 ⊢
    have next : ∀ a b : Int, a = b → bckI xs ⟨b, d.n, d.i + 1⟩ → (-9223372036854775808 ≤ d.i + 1 ∧ d.i + 1 ≤ 9223372036854775807) ∧ ∃ d' : BkL, [Filler.val (.int .i64 d'.a), .dl xs, .val (.int .i64 d'.n), .val (.int .i64 d'.i)] = [Filler.val (.int .i64 a), .dl xs, .val (.int .i64 d.n), .val (.int .i64 (d.i + 1))] ∧ Nat.le (Nat.succ (d'.n - d'.i).toNat) (d.n - d.i).toNat ∧ bckI xs d' := fun a b hab ha => by
      subst hab
      refine ⟨by omega, ⟨a, d.n, d.i + 1⟩, rfl, ?_, ha⟩
      show (d.n - (d.i + 1)).toNat + 1 ≤ (d.n - d.i).toNat; omega
    have b0 : d.a ≤ 2147483648000000 := by omega
    refine ⟨by omega, fun h3 => ⟨⟨by have h3 : (2 : Int) ≤ (lenB (kP xs i) : Int) := of_decide_eq_true h3; exact ⟨by omega, h3⟩, trivial⟩, fun h4 => ⟨hvi, fun h5 => ⟨by show -9223372036854775808 ≤ d.a + rtokF (vP xs i) ∧ d.a + rtokF (vP xs i) ≤ _; omega, by show -9223372036854775808 ≤ d.a + rtokF (vP xs i) + rrewF (vP xs i) ∧ d.a + rtokF (vP xs i) + rrewF (vP xs i) ≤ _; omega, ?_⟩, fun h6 => ?_⟩, fun h7 => ?_⟩, fun h8 => ?_⟩
    · have hf : isF (kP xs i) = true := by rw [is_key, h3]; exact h4
      exact c1 h (fun _ _ h => next _ _ (by show d.a + rtokF (vP xs i) + rrewF (vP xs i) = _; omega) h) (fun _ h => absurd h (by rw [show rokF (vP xs i) = true from h5]; exact Bool.noConfusion)) fun h => absurd h (by rw [hf]; exact Bool.noConfusion)
    · have hf : isF (kP xs i) = true := by rw [is_key, h3]; exact h4
      refine c1 h (fun _ h => absurd h (by rw [show rokF (vP xs i) = false from h6]; exact Bool.noConfusion)) (fun _ _ ⟨h1, h2⟩ => ?_) fun h => absurd h (by rw [hf]; exact Bool.noConfusion)
      show _ = [Value.int .i64 (bckF xs), Value.bool (bokF xs)]
      rw [h1, h2]
    · have hf : isF (kP xs i) = false := by rw [is_key, h3]; exact h7
      exact c1 h (fun h => absurd h (by rw [hf]; exact Bool.noConfusion)) (fun h => absurd h (by rw [hf]; exact Bool.noConfusion)) fun _ h => next _ _ rfl h
    · have hf : isF (kP xs i) = false := by rw [is_key, h8]; rfl
      exact c1 h (fun h => absurd h (by rw [hf]; exact Bool.noConfusion)) (fun h => absurd h (by rw [hf]; exact Bool.noConfusion)) fun _ h => next _ _ rfl h
  · have h9 := of_decide_eq_false h9
    obtain ⟨p0, p1⟩ := c2 h9
    refine ⟨fun h10 => ?_, fun h11 => ?_⟩
    · have h10 := of_decide_eq_true h10
      rcases p1 with ⟨h, _⟩ | ⟨_, h1, h2⟩
      · omega
      · show _ = [Value.int .i64 (bckF xs), Value.bool (bokF xs)]; rw [h1, h2]
    · have h11 := of_decide_eq_false h11
      rcases p1 with ⟨_, h1, h2⟩ | ⟨h, _⟩
      · show _ = [Value.int .i64 (bckF xs), Value.bool (bokF xs)]; rw [h1, h2]
      · omega
/-- They keep what is said of them. -/
theorem one1_ok : PFOk Try.prog 47 (one1P std stF) :=
  pf_ok (LS := fun d => oneLs (oneI d.1) fun e => e.n.toNat) Try.progOk (noCon_ok _) (inCallF_ok 60) (one1P std stF) Try.func47 (show _ = some (bodyS Try.prog 47) by kernel_rfl) fun d _ => one1_run d.1
theorem putCon_ok : ConOk Try.prog (putCon std stF) := conL_ok fun x hx => by rw [List.mem_singleton.1 hx]; exact pcon_ok one1_ok
theorem put_ok : PFOk Try.prog 32 (putP std stF) :=
  pf_ok (LS := fun d => putLs d.1 (fun e => e.n = d.1.length ∧ ∃ i : Nat, e.i = i ∧ i ≤ d.1.length ∧ e.r = numsL d.1 i) fun e => (e.n - e.i).toNat) Try.progOk putCon_ok (inCallF_ok 60) (putP std stF) Try.func32 (show _ = some (bodyS Try.prog 32) by kernel_rfl) fun d hd => put_run d.1 hd.1 hd.2
theorem read_ok : OFOk Try.prog 39 (readO std) :=
  of_ok (LS := fun _ => noL) Try.progOk (noCon_ok _) (inCallF_ok 60) (readO std) Try.func39 (show _ = some (bodyS Try.prog 39) by kernel_rfl) (by decide) rfl fun d hd => read_run d.1 hd
theorem num_ok : OFOk Try.prog 40 (numO stF) :=
  of_ok (LS := fun d => numLs (numI d.1 d.2.1) fun e => (42 - e.s).toNat) Try.progOk (noCon_ok _) (inCallF_ok 60) (numO stF) Try.func40 (show _ = some (bodyS Try.prog 40) by kernel_rfl) (by decide) rfl fun d _ => num_run d.1 d.2.1
theorem rdCon_ok : ConOk Try.prog (rdCon std stF) := conL_ok fun x hx => by
  simp only [List.mem_cons, List.not_mem_nil, or_false] at hx
  rcases hx with rfl | rfl
  · exact read_ok.sem
  · exact num_ok.sem
theorem rd_ok : PFOk Try.prog 20 (rdP std stF) :=
  pf_ok (LS := fun _ => noL) Try.progOk rdCon_ok (inCallF_ok 60) (rdP std stF) Try.func20 (show _ = some (bodyS Try.prog 20) by kernel_rfl) fun d hd => rd_run d.1 hd
theorem rcdCon_ok : ConOk Try.prog (rcdCon std stF) := conL_ok fun x hx => by rw [List.mem_singleton.1 hx]; exact pcon_ok put_ok
theorem rcd_ok : PFOk Try.prog 13 (rcdP std stF) :=
  pf_ok (LS := fun _ => noL) Try.progOk rcdCon_ok (inCallF_ok 60) (rcdP std stF) Try.func13 (show _ = some (bodyS Try.prog 13) by kernel_rfl) fun d _ => rcd_run d.1 d.2.1
theorem bckCon_ok : ConOk Try.prog (bckCon std stF) := conL_ok fun x hx => by rw [List.mem_singleton.1 hx]; exact pcon_ok rd_ok
theorem bck_ok : PFOk Try.prog 12 (bckP std stF) :=
  pf_ok (LS := fun d => bckLs 39 d.1 (bckI d.1) fun e => (e.n - e.i).toNat) Try.progOk bckCon_ok (inCallF_ok 60) (bckP std stF) Try.func12 (show _ = some (bodyS Try.prog 12) by kernel_rfl) fun d hd => bck_run d.1 hd.1 hd.2
theorem rput_none : PFOk Try.prog 48 (rputP std stF (-9223372036854775809)) :=
  ⟨fun _ _ _ hpre => absurd hpre fun h => by
    have h1 : -9223372036854775808 ≤ _ := h.1.1
    have h2 : _ ≤ -9223372036854775809 := h.2
    omega⟩
theorem rputCon_ok {k : Int} (h : PFOk Try.prog 48 (rputP std stF k)) : ConOk Try.prog (rputCon std stF k) := conL_ok fun x hx => by rw [List.mem_singleton.1 hx]; exact pcon_ok h
theorem rput_step {k k' : Int} (h : PFOk Try.prog 48 (rputP std stF k)) (hk : ∀ n, n ≤ k' → 128 ≤ n → n / 128 ≤ k) : PFOk Try.prog 48 (rputP std stF k') :=
  pf_ok (LS := fun _ => noL) Try.progOk (rputCon_ok h) (inCallF_ok 60) (rputP std stF k') Try.func48 (show _ = some (bodyS Try.prog 48) by kernel_rfl) fun d hd => rput_run k k' d.1 (hk d.1 hd.2)
theorem rput_small : ∀ k : Nat, PFOk Try.prog 48 (rputP std stF (128 ^ k : Nat))
  | 0 => rput_step rput_none fun n h1 h2 => by simp at h1; omega
  | k + 1 => rput_step (rput_small k) fun n h1 h2 => by
    have : ((128 ^ (k + 1) : Nat) : Int) = ((128 ^ k : Nat) : Int) * 128 := by rw [Nat.pow_succ]; push_cast; rfl
    omega
theorem rput_ok : PFOk Try.prog 48 (rputP std stF 9223372036854775808) := rput_small 9
theorem rrcd_ok : PFOk Try.prog 37 (rrcdP std stF) :=
  pf_ok (LS := fun _ => noL) Try.progOk (rputCon_ok rput_ok) (inCallF_ok 60) (rrcdP std stF) Try.func37 (show _ = some (bodyS Try.prog 37) by kernel_rfl) fun d hd => rrcd_run _ d.1 d.2.1 hd.1 hd.2 (by omega)
theorem nm_ok : PFOk Try.prog 42 (nmP std stF) :=
  pf_ok (LS := fun d => nmLs d.1 (nmI d.1) fun e => (6 - e.i).toNat) Try.progOk (noCon_ok _) (inCallF_ok 60) (nmP std stF) Try.func42 (show _ = some (bodyS Try.prog 42) by kernel_rfl) fun d hd => nm_run d.1 hd
theorem nmCon_ok : ConOk Try.prog (nmCon std stF) := conL_ok fun x hx => by rw [List.mem_singleton.1 hx]; exact pcon_ok nm_ok
theorem qrd_ok : PFOk Try.prog 21 (qrdP std stF) :=
  pf_ok (LS := fun _ => noL) Try.progOk nmCon_ok (inCallF_ok 60) (qrdP std stF) Try.func21 (show _ = some (bodyS Try.prog 21) by kernel_rfl) fun d hd => qrd_run d.1 hd
theorem rbckCon_ok : ConOk Try.prog (rbckCon std stF) := conL_ok fun x hx => by rw [List.mem_singleton.1 hx]; exact pcon_ok qrd_ok
theorem rbck_ok : PFOk Try.prog 18 (rbckP std stF) :=
  pf_ok (LS := fun d => bckLs 38 d.1 (bckI d.1) fun e => (e.n - e.i).toNat) Try.progOk rbckCon_ok (inCallF_ok 60) (rbckP std stF) Try.func18 (show _ = some (bodyS Try.prog 18) by kernel_rfl) fun d hd => rbck_run d.1 hd.1 hd.2
/-- Numbers come back. -/
theorem byte_more {m : Nat} (hm : m ≤ 1099511627775) : std.wrap .u8 (std.bor .i64 (std.band .i64 (m : Int) 127) 128) = ((m % 128 + 128 : Nat) : Int) := by
  have h1 : std.band .i64 (m : Int) 127 = ((m % 128 : Nat) : Int) := by
    show IntKind.wrap .i64 (((BitVec.ofInt 64 (m : Int)) &&& (BitVec.ofInt 64 ((127 : Nat) : Int))).toNat : Int) = _
    rw [BitVec.toNat_and, ofInt_nat, ofInt_nat, show 127 % 2 ^ 64 = 2 ^ 7 - 1 from rfl, Nat.and_two_pow_sub_one_eq_mod, Nat.mod_eq_of_lt (show m < 2 ^ 64 by omega)]
    exact wrap_i64 (by omega)
  rw [h1, show (128 : Int) = ((128 : Nat) : Int) from rfl, bor_nat (by omega) (by omega)]
  have h2 : m % 128 ||| 128 = 128 + m % 128 := by
    have := Nat.shiftLeft_add_eq_or_of_lt (b := m % 128) (i := 7) (by omega) 1
    rw [show 1 <<< 7 = 128 from rfl] at this
    rw [Nat.or_comm, ← this]
  rw [h2]
  show ((128 + m % 128 : Nat) : Int) % 256 = _
  omega
theorem bits_add {n z k : Nat} {y : Int} (hn : n < 2 ^ k) (hy : std.band .u8 y 127 = z) (hz : z < 128) (hk : k ≤ 35) : bits7 n y k = ((n + z * 2 ^ k : Nat) : Int) := by
  have h35 : 2 ^ k ≤ 2 ^ 35 := Nat.pow_le_pow_right (by omega) hk
  rw [(bits_nat (by omega) hy hz hk).1]
  have := Nat.shiftLeft_add_eq_or_of_lt hn z
  rw [Nat.shiftLeft_eq] at this
  rw [Nat.or_comm, ← this, Nat.add_comm]
theorem num_back : ∀ (f k n m : Nat) (rest : List Value), k + 7 * f ≤ 42 → n < 2 ^ k → m < 128 ^ f → (0 < m ∨ k = 0) → n + m * 2 ^ k ≤ 1099511627775 → 0 < f → numG f k n (oneL f m ++ rest) false = (((n + m * 2 ^ k : Nat) : Int), rest, false)
  | 0, _, _, _, _, _, _, _, _, _, h => absurd h (by omega)
  | f + 1, k, n, m, rest, hk, hn, hm, hp, ht, _ => by
    unfold oneL numG
    rw [if_neg Bool.false_ne_true]
    by_cases c : 127 < (m : Int)
    · rw [if_pos c]
      have hmm : m ≤ 1099511627775 := by
        have : m ≤ m * 2 ^ k := Nat.le_mul_of_pos_right _ (Nat.two_pow_pos k)
        omega
      rw [byte_more hmm]
      simp only [List.cons_append]
      have hd : dint (.int .u8 ((m % 128 + 128 : Nat) : Int)) = ((m % 128 + 128 : Nat) : Int) := rfl
      rw [hd, if_neg (by omega)]
      have hy : std.band .u8 ((m % 128 + 128 : Nat) : Int) 127 = ((m % 128 : Nat) : Int) := by rw [band8]; congr 1; omega
      have hf : 0 < f := by
        rcases Nat.eq_zero_or_pos f with e | e
        · subst e; simp at hm; omega
        · exact e
      rw [bits_add hn hy (by omega) (by omega), shr7', show (m : Int) / 128 = ((m / 128 : Nat) : Int) by omega, show (k : Int) + 7 = ((k + 7 : Nat) : Int) by omega]
      have e2 : 2 ^ (k + 7) = 128 * 2 ^ k := by rw [Nat.pow_add, Nat.mul_comm]
      have hsum : n + m % 128 * 2 ^ k + m / 128 * 2 ^ (k + 7) = n + m * 2 ^ k := by
        rw [e2, ← Nat.mul_assoc, Nat.mul_comm (m / 128) 128, Nat.add_assoc, ← Nat.add_mul]
        congr 2; omega
      rw [num_back f (k + 7) (n + m % 128 * 2 ^ k) (m / 128) rest (by omega) ?_ ?_ (.inl (by omega)) (by omega) hf, hsum]
      · rw [e2]
        have : m % 128 * 2 ^ k ≤ 127 * 2 ^ k := Nat.mul_le_mul_right _ (by omega)
        omega
      · rw [Nat.pow_succ] at hm; omega
    · rw [if_neg c]
      simp only [List.cons_append, List.nil_append]
      have hw : std.wrap .u8 (m : Int) = (m : Int) := by show (m : Int) % 256 = _; omega
      rw [hw]
      have hd : dint (.int .u8 (m : Int)) = (m : Int) := rfl
      have hy : std.band .u8 (m : Int) 127 = ((m : Nat) : Int) := by rw [band8]; congr 1; omega
      rw [hd, if_pos (by omega), bits_add hn hy (by omega) (by omega), if_neg]
      rintro (h | ⟨h1, h2⟩)
      · omega
      · rcases hp with h | h <;> omega
theorem num_one {m : Int} (h0 : 0 ≤ m) (h1 : m ≤ 1099511627775) (rest : List Value) : numG 6 0 0 (one1F m ++ rest) false = (m, rest, false) := by
  rw [one1_pos h0 h1, oneL_more 6 5 m h0 (by omega) (by omega)]
  have := num_back 6 0 0 m.toNat rest (by omega) (by omega) (by omega) (.inr rfl) (by omega) (by omega)
  rw [show ((m.toNat : Nat) : Int) = m by omega, Nat.zero_add, Nat.pow_zero, Nat.mul_one, show ((m.toNat : Nat) : Int) = m by omega] at this
  exact this
theorem u8_ints {l : List Value} (h : ∀ x ∈ l, ∃ b : UInt8, x = .int .u8 b.toNat) : std.svals (std.sof (std.ints l)) = l := by
  show ((l.map dint).map fun n => UInt8.ofNat n.toNat).toArray.toList.map (fun b : UInt8 => Value.int .u8 b.toNat) = l
  rw [List.toList_toArray, List.map_map, List.map_map]
  conv => rhs; rw [← List.map_id l]
  refine List.map_congr_left fun x hx => ?_
  obtain ⟨b, rfl⟩ := h x hx
  show Value.int .u8 (((UInt8.ofNat ((b.toNat : Int)).toNat).toNat : Nat) : Int) = _
  rw [Int.toNat_natCast, UInt8.ofNat_toNat]; rfl
theorem wrap8_byte (n : Int) : ∃ b : UInt8, std.wrap .u8 n = b.toNat := by
  refine ⟨UInt8.ofNat (n % 256).toNat, ?_⟩
  show n % 256 = _
  rw [UInt8.toNat_ofNat']
  omega
theorem oneL_bytes : ∀ (f : Nat) (n : Int), ∀ x ∈ oneL f n, ∃ b : UInt8, x = .int .u8 b.toNat
  | 0, n, x, h => by simp [oneL] at h
  | f + 1, n, x, h => by
    unfold oneL at h
    split at h
    · rcases List.mem_cons.1 h with rfl | h
      · obtain ⟨b, e⟩ := wrap8_byte (std.bor .i64 (std.band .i64 n 127) 128); exact ⟨b, by rw [e]⟩
      · exact oneL_bytes f _ x h
    · rw [List.mem_singleton.1 h]
      obtain ⟨b, e⟩ := wrap8_byte n; exact ⟨b, by rw [e]⟩
theorem one1_bytes (n : Int) : ∀ x ∈ one1F n, ∃ b : UInt8, x = .int .u8 b.toNat := by
  unfold one1F
  split
  · exact oneL_bytes 7 n
  · intro x hx; cases hx
theorem recB_svals (a b : Int) : std.svals (recB a b) = one1F a ++ one1F b :=
  u8_ints fun x hx => by
    rcases List.mem_append.1 hx with h | h
    · exact one1_bytes a x h
    · exact one1_bytes b x h
theorem recB_len (a b : Int) : lenB (recB a b) ≤ 14 := by
  have h := congrArg List.length (recB_svals a b)
  have h1 := one1_len a
  have h2 := one1_len b
  rw [List.length_append] at h
  have h3 : (std.svals (recB a b)).length = lenB (recB a b) := List.length_map ..
  omega
/-- A record read. -/
theorem rec_back {a b : Int} (ha : 0 ≤ a ∧ a ≤ 1099511627775) (hb : 0 ≤ b ∧ b ≤ 1099511627775) : rokF (recB a b) = (isA a && isA b) ∧ (isA a = true → isA b = true → rtokF (recB a b) = a ∧ rrewF (recB a b) = b) := by
  have e1 : rd1 (recB a b) = (a, one1F b, false) := by
    unfold rd1
    rw [recB_svals, num_one ha.1 ha.2]
  have e2 : rd2 (recB a b) = (b, [], false) := by
    unfold rd2
    rw [e1]
    have := num_one hb.1 hb.2 []
    rw [List.append_nil] at this
    exact this
  have hok : rokF (recB a b) = (isA a && isA b) := by
    unfold rokF isA
    rw [e1, e2]
    simp [ha.1, hb.1]
  refine ⟨hok, fun h1 h2 => ?_⟩
  unfold rtokF rrewF
  rw [hok, h1, h2, e1, e2]
  exact ⟨rfl, rfl⟩
theorem rok_none : rokF noB = false ∧ rtokF noB = 0 ∧ rrewF noB = 0 := ⟨rfl, rfl, rfl⟩
end Go.Proofs.Ytecdmdglkkeidaa
end
section
namespace Go.Proofs.Ytecdmdglkkeidaa
open Go.Abs Go
set_option maxRecDepth 100000 in
theorem delg_vc (g : KvF) (t : StF) (xs : List Value) (s : ByteArray) (a : Int) : runP std (stkCon std g t) 60 noL (delgP std t) 9 Try.f9 (xs, s, a, ()) =
  ((((std.slen (ByteArray.mk (Array.mk [(115 : UInt8), (47 : UInt8)]))) + (std.slen s)) ≤ 9223372036854775807) ∧ ((((std.seq s (ByteArray.mk (Array.mk []))) = true) → ([(dsl zP xs), (Value.int IntKind.i64 (1 : Int))] = [(dsl zP (t.stk (1 : Int) xs s a (0 : Int))), (Value.int IntKind.i64 (t.ster (1 : Int) xs s a (0 : Int)))])) ∧ (((std.seq s (ByteArray.mk (Array.mk []))) = false) → ((((decide ((16 : Int) < ((std.slen ((ByteArray.mk (Array.mk [(115 : UInt8), (47 : UInt8)])) ++ s)) : Int))) = true) → ([(dsl zP xs), (Value.int IntKind.i64 (1 : Int))] = [(dsl zP (t.stk (1 : Int) xs s a (0 : Int))), (Value.int IntKind.i64 (t.ster (1 : Int) xs s a (0 : Int)))])) ∧ (((decide ((16 : Int) < ((std.slen ((ByteArray.mk (Array.mk [(115 : UInt8), (47 : UInt8)])) ++ s)) : Int))) = false) → ((((decide ((0 : Int) ≤ a)) = true) → ((((decide (a ≤ (1073741824 : Int))) = true) → (((List.length xs) ≤ 1000000) ∧ ((((g.fd xs ((ByteArray.mk (Array.mk [(115 : UInt8), (47 : UInt8)])) ++ s)) = true) → (((std.slen (g.get xs ((ByteArray.mk (Array.mk [(115 : UInt8), (47 : UInt8)])) ++ s))) ≤ 4000000) ∧ ((((t.rok (g.get xs ((ByteArray.mk (Array.mk [(115 : UInt8), (47 : UInt8)])) ++ s))) = true) → ((((-9223372036854775808 : Int) ≤ ((t.rtok (g.get xs ((ByteArray.mk (Array.mk [(115 : UInt8), (47 : UInt8)])) ++ s))) + a)) ∧ (((t.rtok (g.get xs ((ByteArray.mk (Array.mk [(115 : UInt8), (47 : UInt8)])) ++ s))) + a) ≤ (9223372036854775807 : Int))) ∧ (((((-9223372036854775808 : Int) ≤ ((t.rtok (g.get xs ((ByteArray.mk (Array.mk [(115 : UInt8), (47 : UInt8)])) ++ s))) + a)) ∧ (((t.rtok (g.get xs ((ByteArray.mk (Array.mk [(115 : UInt8), (47 : UInt8)])) ++ s))) + a) ≤ (9223372036854775807 : Int))) ∧ (((-9223372036854775808 : Int) ≤ (t.rrew (g.get xs ((ByteArray.mk (Array.mk [(115 : UInt8), (47 : UInt8)])) ++ s)))) ∧ ((t.rrew (g.get xs ((ByteArray.mk (Array.mk [(115 : UInt8), (47 : UInt8)])) ++ s))) ≤ (9223372036854775807 : Int)))) ∧ (((List.length xs) ≤ 1000000) ∧ ((((g.setok xs ((ByteArray.mk (Array.mk [(115 : UInt8), (47 : UInt8)])) ++ s) (t.rcd ((t.rtok (g.get xs ((ByteArray.mk (Array.mk [(115 : UInt8), (47 : UInt8)])) ++ s))) + a) (t.rrew (g.get xs ((ByteArray.mk (Array.mk [(115 : UInt8), (47 : UInt8)])) ++ s))))) = true) → ((((List.length (g.set xs ((ByteArray.mk (Array.mk [(115 : UInt8), (47 : UInt8)])) ++ s) (t.rcd ((t.rtok (g.get xs ((ByteArray.mk (Array.mk [(115 : UInt8), (47 : UInt8)])) ++ s))) + a) (t.rrew (g.get xs ((ByteArray.mk (Array.mk [(115 : UInt8), (47 : UInt8)])) ++ s)))))) ≤ 1000000) ∧ (∀ (i14 : Nat), ((i14 < (List.length (g.set xs ((ByteArray.mk (Array.mk [(115 : UInt8), (47 : UInt8)])) ++ s) (t.rcd ((t.rtok (g.get xs ((ByteArray.mk (Array.mk [(115 : UInt8), (47 : UInt8)])) ++ s))) + a) (t.rrew (g.get xs ((ByteArray.mk (Array.mk [(115 : UInt8), (47 : UInt8)])) ++ s))))))) → ((std.slen (vP (g.set xs ((ByteArray.mk (Array.mk [(115 : UInt8), (47 : UInt8)])) ++ s) (t.rcd ((t.rtok (g.get xs ((ByteArray.mk (Array.mk [(115 : UInt8), (47 : UInt8)])) ++ s))) + a) (t.rrew (g.get xs ((ByteArray.mk (Array.mk [(115 : UInt8), (47 : UInt8)])) ++ s))))) i14)) ≤ 4000000)))) ∧ ((((t.bok (g.set xs ((ByteArray.mk (Array.mk [(115 : UInt8), (47 : UInt8)])) ++ s) (t.rcd ((t.rtok (g.get xs ((ByteArray.mk (Array.mk [(115 : UInt8), (47 : UInt8)])) ++ s))) + a) (t.rrew (g.get xs ((ByteArray.mk (Array.mk [(115 : UInt8), (47 : UInt8)])) ++ s)))))) = true) → ([(dsl zP (g.set xs ((ByteArray.mk (Array.mk [(115 : UInt8), (47 : UInt8)])) ++ s) (t.rcd ((t.rtok (g.get xs ((ByteArray.mk (Array.mk [(115 : UInt8), (47 : UInt8)])) ++ s))) + a) (t.rrew (g.get xs ((ByteArray.mk (Array.mk [(115 : UInt8), (47 : UInt8)])) ++ s)))))), (Value.int IntKind.i64 (0 : Int))] = [(dsl zP (t.stk (1 : Int) xs s a (0 : Int))), (Value.int IntKind.i64 (t.ster (1 : Int) xs s a (0 : Int)))])) ∧ (((t.bok (g.set xs ((ByteArray.mk (Array.mk [(115 : UInt8), (47 : UInt8)])) ++ s) (t.rcd ((t.rtok (g.get xs ((ByteArray.mk (Array.mk [(115 : UInt8), (47 : UInt8)])) ++ s))) + a) (t.rrew (g.get xs ((ByteArray.mk (Array.mk [(115 : UInt8), (47 : UInt8)])) ++ s)))))) = false) → ([(dsl zP xs), (Value.int IntKind.i64 (11 : Int))] = [(dsl zP (t.stk (1 : Int) xs s a (0 : Int))), (Value.int IntKind.i64 (t.ster (1 : Int) xs s a (0 : Int)))]))))) ∧ (((g.setok xs ((ByteArray.mk (Array.mk [(115 : UInt8), (47 : UInt8)])) ++ s) (t.rcd ((t.rtok (g.get xs ((ByteArray.mk (Array.mk [(115 : UInt8), (47 : UInt8)])) ++ s))) + a) (t.rrew (g.get xs ((ByteArray.mk (Array.mk [(115 : UInt8), (47 : UInt8)])) ++ s))))) = false) → ([(dsl zP xs), (Value.int IntKind.i64 (7 : Int))] = [(dsl zP (t.stk (1 : Int) xs s a (0 : Int))), (Value.int IntKind.i64 (t.ster (1 : Int) xs s a (0 : Int)))]))))))) ∧ (((t.rok (g.get xs ((ByteArray.mk (Array.mk [(115 : UInt8), (47 : UInt8)])) ++ s))) = false) → ([(dsl zP xs), (Value.int IntKind.i64 (1 : Int))] = [(dsl zP (t.stk (1 : Int) xs s a (0 : Int))), (Value.int IntKind.i64 (t.ster (1 : Int) xs s a (0 : Int)))]))))) ∧ (((g.fd xs ((ByteArray.mk (Array.mk [(115 : UInt8), (47 : UInt8)])) ++ s)) = false) → (((std.slen (g.get xs ((ByteArray.mk (Array.mk [(115 : UInt8), (47 : UInt8)])) ++ s))) ≤ 4000000) ∧ ((((t.rok (g.get xs ((ByteArray.mk (Array.mk [(115 : UInt8), (47 : UInt8)])) ++ s))) = true) → ((((-9223372036854775808 : Int) ≤ ((t.rtok (g.get xs ((ByteArray.mk (Array.mk [(115 : UInt8), (47 : UInt8)])) ++ s))) + a)) ∧ (((t.rtok (g.get xs ((ByteArray.mk (Array.mk [(115 : UInt8), (47 : UInt8)])) ++ s))) + a) ≤ (9223372036854775807 : Int))) ∧ (((((-9223372036854775808 : Int) ≤ ((t.rtok (g.get xs ((ByteArray.mk (Array.mk [(115 : UInt8), (47 : UInt8)])) ++ s))) + a)) ∧ (((t.rtok (g.get xs ((ByteArray.mk (Array.mk [(115 : UInt8), (47 : UInt8)])) ++ s))) + a) ≤ (9223372036854775807 : Int))) ∧ (((-9223372036854775808 : Int) ≤ (t.rrew (g.get xs ((ByteArray.mk (Array.mk [(115 : UInt8), (47 : UInt8)])) ++ s)))) ∧ ((t.rrew (g.get xs ((ByteArray.mk (Array.mk [(115 : UInt8), (47 : UInt8)])) ++ s))) ≤ (9223372036854775807 : Int)))) ∧ (((List.length xs) ≤ 1000000) ∧ ((((g.setok xs ((ByteArray.mk (Array.mk [(115 : UInt8), (47 : UInt8)])) ++ s) (t.rcd ((t.rtok (g.get xs ((ByteArray.mk (Array.mk [(115 : UInt8), (47 : UInt8)])) ++ s))) + a) (t.rrew (g.get xs ((ByteArray.mk (Array.mk [(115 : UInt8), (47 : UInt8)])) ++ s))))) = true) → ((((List.length (g.set xs ((ByteArray.mk (Array.mk [(115 : UInt8), (47 : UInt8)])) ++ s) (t.rcd ((t.rtok (g.get xs ((ByteArray.mk (Array.mk [(115 : UInt8), (47 : UInt8)])) ++ s))) + a) (t.rrew (g.get xs ((ByteArray.mk (Array.mk [(115 : UInt8), (47 : UInt8)])) ++ s)))))) ≤ 1000000) ∧ (∀ (i14 : Nat), ((i14 < (List.length (g.set xs ((ByteArray.mk (Array.mk [(115 : UInt8), (47 : UInt8)])) ++ s) (t.rcd ((t.rtok (g.get xs ((ByteArray.mk (Array.mk [(115 : UInt8), (47 : UInt8)])) ++ s))) + a) (t.rrew (g.get xs ((ByteArray.mk (Array.mk [(115 : UInt8), (47 : UInt8)])) ++ s))))))) → ((std.slen (vP (g.set xs ((ByteArray.mk (Array.mk [(115 : UInt8), (47 : UInt8)])) ++ s) (t.rcd ((t.rtok (g.get xs ((ByteArray.mk (Array.mk [(115 : UInt8), (47 : UInt8)])) ++ s))) + a) (t.rrew (g.get xs ((ByteArray.mk (Array.mk [(115 : UInt8), (47 : UInt8)])) ++ s))))) i14)) ≤ 4000000)))) ∧ ((((t.bok (g.set xs ((ByteArray.mk (Array.mk [(115 : UInt8), (47 : UInt8)])) ++ s) (t.rcd ((t.rtok (g.get xs ((ByteArray.mk (Array.mk [(115 : UInt8), (47 : UInt8)])) ++ s))) + a) (t.rrew (g.get xs ((ByteArray.mk (Array.mk [(115 : UInt8), (47 : UInt8)])) ++ s)))))) = true) → ([(dsl zP (g.set xs ((ByteArray.mk (Array.mk [(115 : UInt8), (47 : UInt8)])) ++ s) (t.rcd ((t.rtok (g.get xs ((ByteArray.mk (Array.mk [(115 : UInt8), (47 : UInt8)])) ++ s))) + a) (t.rrew (g.get xs ((ByteArray.mk (Array.mk [(115 : UInt8), (47 : UInt8)])) ++ s)))))), (Value.int IntKind.i64 (0 : Int))] = [(dsl zP (t.stk (1 : Int) xs s a (0 : Int))), (Value.int IntKind.i64 (t.ster (1 : Int) xs s a (0 : Int)))])) ∧ (((t.bok (g.set xs ((ByteArray.mk (Array.mk [(115 : UInt8), (47 : UInt8)])) ++ s) (t.rcd ((t.rtok (g.get xs ((ByteArray.mk (Array.mk [(115 : UInt8), (47 : UInt8)])) ++ s))) + a) (t.rrew (g.get xs ((ByteArray.mk (Array.mk [(115 : UInt8), (47 : UInt8)])) ++ s)))))) = false) → ([(dsl zP xs), (Value.int IntKind.i64 (11 : Int))] = [(dsl zP (t.stk (1 : Int) xs s a (0 : Int))), (Value.int IntKind.i64 (t.ster (1 : Int) xs s a (0 : Int)))]))))) ∧ (((g.setok xs ((ByteArray.mk (Array.mk [(115 : UInt8), (47 : UInt8)])) ++ s) (t.rcd ((t.rtok (g.get xs ((ByteArray.mk (Array.mk [(115 : UInt8), (47 : UInt8)])) ++ s))) + a) (t.rrew (g.get xs ((ByteArray.mk (Array.mk [(115 : UInt8), (47 : UInt8)])) ++ s))))) = false) → ([(dsl zP xs), (Value.int IntKind.i64 (7 : Int))] = [(dsl zP (t.stk (1 : Int) xs s a (0 : Int))), (Value.int IntKind.i64 (t.ster (1 : Int) xs s a (0 : Int)))]))))))) ∧ (((t.rok (g.get xs ((ByteArray.mk (Array.mk [(115 : UInt8), (47 : UInt8)])) ++ s))) = false) → ((((-9223372036854775808 : Int) ≤ ((t.rtok (g.get xs ((ByteArray.mk (Array.mk [(115 : UInt8), (47 : UInt8)])) ++ s))) + a)) ∧ (((t.rtok (g.get xs ((ByteArray.mk (Array.mk [(115 : UInt8), (47 : UInt8)])) ++ s))) + a) ≤ (9223372036854775807 : Int))) ∧ (((((-9223372036854775808 : Int) ≤ ((t.rtok (g.get xs ((ByteArray.mk (Array.mk [(115 : UInt8), (47 : UInt8)])) ++ s))) + a)) ∧ (((t.rtok (g.get xs ((ByteArray.mk (Array.mk [(115 : UInt8), (47 : UInt8)])) ++ s))) + a) ≤ (9223372036854775807 : Int))) ∧ (((-9223372036854775808 : Int) ≤ (t.rrew (g.get xs ((ByteArray.mk (Array.mk [(115 : UInt8), (47 : UInt8)])) ++ s)))) ∧ ((t.rrew (g.get xs ((ByteArray.mk (Array.mk [(115 : UInt8), (47 : UInt8)])) ++ s))) ≤ (9223372036854775807 : Int)))) ∧ (((List.length xs) ≤ 1000000) ∧ ((((g.setok xs ((ByteArray.mk (Array.mk [(115 : UInt8), (47 : UInt8)])) ++ s) (t.rcd ((t.rtok (g.get xs ((ByteArray.mk (Array.mk [(115 : UInt8), (47 : UInt8)])) ++ s))) + a) (t.rrew (g.get xs ((ByteArray.mk (Array.mk [(115 : UInt8), (47 : UInt8)])) ++ s))))) = true) → ((((List.length (g.set xs ((ByteArray.mk (Array.mk [(115 : UInt8), (47 : UInt8)])) ++ s) (t.rcd ((t.rtok (g.get xs ((ByteArray.mk (Array.mk [(115 : UInt8), (47 : UInt8)])) ++ s))) + a) (t.rrew (g.get xs ((ByteArray.mk (Array.mk [(115 : UInt8), (47 : UInt8)])) ++ s)))))) ≤ 1000000) ∧ (∀ (i14 : Nat), ((i14 < (List.length (g.set xs ((ByteArray.mk (Array.mk [(115 : UInt8), (47 : UInt8)])) ++ s) (t.rcd ((t.rtok (g.get xs ((ByteArray.mk (Array.mk [(115 : UInt8), (47 : UInt8)])) ++ s))) + a) (t.rrew (g.get xs ((ByteArray.mk (Array.mk [(115 : UInt8), (47 : UInt8)])) ++ s))))))) → ((std.slen (vP (g.set xs ((ByteArray.mk (Array.mk [(115 : UInt8), (47 : UInt8)])) ++ s) (t.rcd ((t.rtok (g.get xs ((ByteArray.mk (Array.mk [(115 : UInt8), (47 : UInt8)])) ++ s))) + a) (t.rrew (g.get xs ((ByteArray.mk (Array.mk [(115 : UInt8), (47 : UInt8)])) ++ s))))) i14)) ≤ 4000000)))) ∧ ((((t.bok (g.set xs ((ByteArray.mk (Array.mk [(115 : UInt8), (47 : UInt8)])) ++ s) (t.rcd ((t.rtok (g.get xs ((ByteArray.mk (Array.mk [(115 : UInt8), (47 : UInt8)])) ++ s))) + a) (t.rrew (g.get xs ((ByteArray.mk (Array.mk [(115 : UInt8), (47 : UInt8)])) ++ s)))))) = true) → ([(dsl zP (g.set xs ((ByteArray.mk (Array.mk [(115 : UInt8), (47 : UInt8)])) ++ s) (t.rcd ((t.rtok (g.get xs ((ByteArray.mk (Array.mk [(115 : UInt8), (47 : UInt8)])) ++ s))) + a) (t.rrew (g.get xs ((ByteArray.mk (Array.mk [(115 : UInt8), (47 : UInt8)])) ++ s)))))), (Value.int IntKind.i64 (0 : Int))] = [(dsl zP (t.stk (1 : Int) xs s a (0 : Int))), (Value.int IntKind.i64 (t.ster (1 : Int) xs s a (0 : Int)))])) ∧ (((t.bok (g.set xs ((ByteArray.mk (Array.mk [(115 : UInt8), (47 : UInt8)])) ++ s) (t.rcd ((t.rtok (g.get xs ((ByteArray.mk (Array.mk [(115 : UInt8), (47 : UInt8)])) ++ s))) + a) (t.rrew (g.get xs ((ByteArray.mk (Array.mk [(115 : UInt8), (47 : UInt8)])) ++ s)))))) = false) → ([(dsl zP xs), (Value.int IntKind.i64 (11 : Int))] = [(dsl zP (t.stk (1 : Int) xs s a (0 : Int))), (Value.int IntKind.i64 (t.ster (1 : Int) xs s a (0 : Int)))]))))) ∧ (((g.setok xs ((ByteArray.mk (Array.mk [(115 : UInt8), (47 : UInt8)])) ++ s) (t.rcd ((t.rtok (g.get xs ((ByteArray.mk (Array.mk [(115 : UInt8), (47 : UInt8)])) ++ s))) + a) (t.rrew (g.get xs ((ByteArray.mk (Array.mk [(115 : UInt8), (47 : UInt8)])) ++ s))))) = false) → ([(dsl zP xs), (Value.int IntKind.i64 (7 : Int))] = [(dsl zP (t.stk (1 : Int) xs s a (0 : Int))), (Value.int IntKind.i64 (t.ster (1 : Int) xs s a (0 : Int)))]))))))))))))) ∧ (((decide (a ≤ (1073741824 : Int))) = false) → ([(dsl zP xs), (Value.int IntKind.i64 (1 : Int))] = [(dsl zP (t.stk (1 : Int) xs s a (0 : Int))), (Value.int IntKind.i64 (t.ster (1 : Int) xs s a (0 : Int)))])))) ∧ (((decide ((0 : Int) ≤ a)) = false) → ([(dsl zP xs), (Value.int IntKind.i64 (1 : Int))] = [(dsl zP (t.stk (1 : Int) xs s a (0 : Int))), (Value.int IntKind.i64 (t.ster (1 : Int) xs s a (0 : Int)))])))))))) := by kernel_rfl
set_option maxRecDepth 100000 in
theorem rwd_vc (g : KvF) (t : StF) (xs : List Value) (s : ByteArray) (a : Int) : runP std (stkCon std g t) 60 noL (rwdP std t) 11 Try.f11 (xs, s, a, ()) =
  ((((std.slen (ByteArray.mk (Array.mk [(115 : UInt8), (47 : UInt8)]))) + (std.slen s)) ≤ 9223372036854775807) ∧ ((((std.seq s (ByteArray.mk (Array.mk []))) = true) → ([(dsl zP xs), (Value.int IntKind.i64 (1 : Int))] = [(dsl zP (t.stk (2 : Int) xs s a (0 : Int))), (Value.int IntKind.i64 (t.ster (2 : Int) xs s a (0 : Int)))])) ∧ (((std.seq s (ByteArray.mk (Array.mk []))) = false) → ((((decide ((16 : Int) < ((std.slen ((ByteArray.mk (Array.mk [(115 : UInt8), (47 : UInt8)])) ++ s)) : Int))) = true) → ([(dsl zP xs), (Value.int IntKind.i64 (1 : Int))] = [(dsl zP (t.stk (2 : Int) xs s a (0 : Int))), (Value.int IntKind.i64 (t.ster (2 : Int) xs s a (0 : Int)))])) ∧ (((decide ((16 : Int) < ((std.slen ((ByteArray.mk (Array.mk [(115 : UInt8), (47 : UInt8)])) ++ s)) : Int))) = false) → ((((decide ((0 : Int) ≤ a)) = true) → ((((decide (a ≤ (1073741824 : Int))) = true) → (((List.length xs) ≤ 1000000) ∧ ((((g.fd xs ((ByteArray.mk (Array.mk [(115 : UInt8), (47 : UInt8)])) ++ s)) = true) → (((std.slen (g.get xs ((ByteArray.mk (Array.mk [(115 : UInt8), (47 : UInt8)])) ++ s))) ≤ 4000000) ∧ ((((t.rok (g.get xs ((ByteArray.mk (Array.mk [(115 : UInt8), (47 : UInt8)])) ++ s))) = true) → ((((-9223372036854775808 : Int) ≤ ((t.rrew (g.get xs ((ByteArray.mk (Array.mk [(115 : UInt8), (47 : UInt8)])) ++ s))) + a)) ∧ (((t.rrew (g.get xs ((ByteArray.mk (Array.mk [(115 : UInt8), (47 : UInt8)])) ++ s))) + a) ≤ (9223372036854775807 : Int))) ∧ (((((-9223372036854775808 : Int) ≤ (t.rtok (g.get xs ((ByteArray.mk (Array.mk [(115 : UInt8), (47 : UInt8)])) ++ s)))) ∧ ((t.rtok (g.get xs ((ByteArray.mk (Array.mk [(115 : UInt8), (47 : UInt8)])) ++ s))) ≤ (9223372036854775807 : Int))) ∧ (((-9223372036854775808 : Int) ≤ ((t.rrew (g.get xs ((ByteArray.mk (Array.mk [(115 : UInt8), (47 : UInt8)])) ++ s))) + a)) ∧ (((t.rrew (g.get xs ((ByteArray.mk (Array.mk [(115 : UInt8), (47 : UInt8)])) ++ s))) + a) ≤ (9223372036854775807 : Int)))) ∧ (((List.length xs) ≤ 1000000) ∧ ((((g.setok xs ((ByteArray.mk (Array.mk [(115 : UInt8), (47 : UInt8)])) ++ s) (t.rcd (t.rtok (g.get xs ((ByteArray.mk (Array.mk [(115 : UInt8), (47 : UInt8)])) ++ s))) ((t.rrew (g.get xs ((ByteArray.mk (Array.mk [(115 : UInt8), (47 : UInt8)])) ++ s))) + a))) = true) → ((((List.length (g.set xs ((ByteArray.mk (Array.mk [(115 : UInt8), (47 : UInt8)])) ++ s) (t.rcd (t.rtok (g.get xs ((ByteArray.mk (Array.mk [(115 : UInt8), (47 : UInt8)])) ++ s))) ((t.rrew (g.get xs ((ByteArray.mk (Array.mk [(115 : UInt8), (47 : UInt8)])) ++ s))) + a)))) ≤ 1000000) ∧ (∀ (i14 : Nat), ((i14 < (List.length (g.set xs ((ByteArray.mk (Array.mk [(115 : UInt8), (47 : UInt8)])) ++ s) (t.rcd (t.rtok (g.get xs ((ByteArray.mk (Array.mk [(115 : UInt8), (47 : UInt8)])) ++ s))) ((t.rrew (g.get xs ((ByteArray.mk (Array.mk [(115 : UInt8), (47 : UInt8)])) ++ s))) + a))))) → ((std.slen (vP (g.set xs ((ByteArray.mk (Array.mk [(115 : UInt8), (47 : UInt8)])) ++ s) (t.rcd (t.rtok (g.get xs ((ByteArray.mk (Array.mk [(115 : UInt8), (47 : UInt8)])) ++ s))) ((t.rrew (g.get xs ((ByteArray.mk (Array.mk [(115 : UInt8), (47 : UInt8)])) ++ s))) + a))) i14)) ≤ 4000000)))) ∧ ((((t.bok (g.set xs ((ByteArray.mk (Array.mk [(115 : UInt8), (47 : UInt8)])) ++ s) (t.rcd (t.rtok (g.get xs ((ByteArray.mk (Array.mk [(115 : UInt8), (47 : UInt8)])) ++ s))) ((t.rrew (g.get xs ((ByteArray.mk (Array.mk [(115 : UInt8), (47 : UInt8)])) ++ s))) + a)))) = true) → ([(dsl zP (g.set xs ((ByteArray.mk (Array.mk [(115 : UInt8), (47 : UInt8)])) ++ s) (t.rcd (t.rtok (g.get xs ((ByteArray.mk (Array.mk [(115 : UInt8), (47 : UInt8)])) ++ s))) ((t.rrew (g.get xs ((ByteArray.mk (Array.mk [(115 : UInt8), (47 : UInt8)])) ++ s))) + a)))), (Value.int IntKind.i64 (0 : Int))] = [(dsl zP (t.stk (2 : Int) xs s a (0 : Int))), (Value.int IntKind.i64 (t.ster (2 : Int) xs s a (0 : Int)))])) ∧ (((t.bok (g.set xs ((ByteArray.mk (Array.mk [(115 : UInt8), (47 : UInt8)])) ++ s) (t.rcd (t.rtok (g.get xs ((ByteArray.mk (Array.mk [(115 : UInt8), (47 : UInt8)])) ++ s))) ((t.rrew (g.get xs ((ByteArray.mk (Array.mk [(115 : UInt8), (47 : UInt8)])) ++ s))) + a)))) = false) → ([(dsl zP xs), (Value.int IntKind.i64 (11 : Int))] = [(dsl zP (t.stk (2 : Int) xs s a (0 : Int))), (Value.int IntKind.i64 (t.ster (2 : Int) xs s a (0 : Int)))]))))) ∧ (((g.setok xs ((ByteArray.mk (Array.mk [(115 : UInt8), (47 : UInt8)])) ++ s) (t.rcd (t.rtok (g.get xs ((ByteArray.mk (Array.mk [(115 : UInt8), (47 : UInt8)])) ++ s))) ((t.rrew (g.get xs ((ByteArray.mk (Array.mk [(115 : UInt8), (47 : UInt8)])) ++ s))) + a))) = false) → ([(dsl zP xs), (Value.int IntKind.i64 (7 : Int))] = [(dsl zP (t.stk (2 : Int) xs s a (0 : Int))), (Value.int IntKind.i64 (t.ster (2 : Int) xs s a (0 : Int)))]))))))) ∧ (((t.rok (g.get xs ((ByteArray.mk (Array.mk [(115 : UInt8), (47 : UInt8)])) ++ s))) = false) → ([(dsl zP xs), (Value.int IntKind.i64 (1 : Int))] = [(dsl zP (t.stk (2 : Int) xs s a (0 : Int))), (Value.int IntKind.i64 (t.ster (2 : Int) xs s a (0 : Int)))]))))) ∧ (((g.fd xs ((ByteArray.mk (Array.mk [(115 : UInt8), (47 : UInt8)])) ++ s)) = false) → (((std.slen (g.get xs ((ByteArray.mk (Array.mk [(115 : UInt8), (47 : UInt8)])) ++ s))) ≤ 4000000) ∧ ((((t.rok (g.get xs ((ByteArray.mk (Array.mk [(115 : UInt8), (47 : UInt8)])) ++ s))) = true) → ([(dsl zP xs), (Value.int IntKind.i64 (3 : Int))] = [(dsl zP (t.stk (2 : Int) xs s a (0 : Int))), (Value.int IntKind.i64 (t.ster (2 : Int) xs s a (0 : Int)))])) ∧ (((t.rok (g.get xs ((ByteArray.mk (Array.mk [(115 : UInt8), (47 : UInt8)])) ++ s))) = false) → ([(dsl zP xs), (Value.int IntKind.i64 (3 : Int))] = [(dsl zP (t.stk (2 : Int) xs s a (0 : Int))), (Value.int IntKind.i64 (t.ster (2 : Int) xs s a (0 : Int)))])))))))) ∧ (((decide (a ≤ (1073741824 : Int))) = false) → ([(dsl zP xs), (Value.int IntKind.i64 (1 : Int))] = [(dsl zP (t.stk (2 : Int) xs s a (0 : Int))), (Value.int IntKind.i64 (t.ster (2 : Int) xs s a (0 : Int)))])))) ∧ (((decide ((0 : Int) ≤ a)) = false) → ([(dsl zP xs), (Value.int IntKind.i64 (1 : Int))] = [(dsl zP (t.stk (2 : Int) xs s a (0 : Int))), (Value.int IntKind.i64 (t.ster (2 : Int) xs s a (0 : Int)))])))))))) := by kernel_rfl
set_option maxRecDepth 100000 in
theorem sla_vc (g : KvF) (t : StF) (xs : List Value) (s : ByteArray) (a b : Int) : runP std (stkCon std g t) 60 noL (slaP std t) 10 Try.f10 (xs, s, a, b, ()) =
  ((((std.slen (ByteArray.mk (Array.mk [(115 : UInt8), (47 : UInt8)]))) + (std.slen s)) ≤ 9223372036854775807) ∧ ((((std.seq s (ByteArray.mk (Array.mk []))) = true) → ([(dsl zP xs), (Value.int IntKind.i64 (1 : Int))] = [(dsl zP (t.stk (3 : Int) xs s a b)), (Value.int IntKind.i64 (t.ster (3 : Int) xs s a b))])) ∧ (((std.seq s (ByteArray.mk (Array.mk []))) = false) → ((((decide ((16 : Int) < ((std.slen ((ByteArray.mk (Array.mk [(115 : UInt8), (47 : UInt8)])) ++ s)) : Int))) = true) → ([(dsl zP xs), (Value.int IntKind.i64 (1 : Int))] = [(dsl zP (t.stk (3 : Int) xs s a b)), (Value.int IntKind.i64 (t.ster (3 : Int) xs s a b))])) ∧ (((decide ((16 : Int) < ((std.slen ((ByteArray.mk (Array.mk [(115 : UInt8), (47 : UInt8)])) ++ s)) : Int))) = false) → ((((decide ((0 : Int) ≤ a)) = true) → ((((decide (a ≤ (1073741824 : Int))) = true) → (((List.length xs) ≤ 1000000) ∧ ((((g.fd xs ((ByteArray.mk (Array.mk [(115 : UInt8), (47 : UInt8)])) ++ s)) = true) → (((std.slen (g.get xs ((ByteArray.mk (Array.mk [(115 : UInt8), (47 : UInt8)])) ++ s))) ≤ 4000000) ∧ ((((t.rok (g.get xs ((ByteArray.mk (Array.mk [(115 : UInt8), (47 : UInt8)])) ++ s))) = true) → ((((decide (b < (1 : Int))) = true) → ([(dsl zP xs), (Value.int IntKind.i64 (1 : Int))] = [(dsl zP (t.stk (3 : Int) xs s a b)), (Value.int IntKind.i64 (t.ster (3 : Int) xs s a b))])) ∧ (((decide (b < (1 : Int))) = false) → ((((decide ((1048576 : Int) < b)) = true) → ([(dsl zP xs), (Value.int IntKind.i64 (1 : Int))] = [(dsl zP (t.stk (3 : Int) xs s a b)), (Value.int IntKind.i64 (t.ster (3 : Int) xs s a b))])) ∧ (((decide ((1048576 : Int) < b)) = false) → ((((decide (b < a)) = true) → ([(dsl zP xs), (Value.int IntKind.i64 (1 : Int))] = [(dsl zP (t.stk (3 : Int) xs s a b)), (Value.int IntKind.i64 (t.ster (3 : Int) xs s a b))])) ∧ (((decide (b < a)) = false) → ((((-9223372036854775808 : Int) ≤ (b - a)) ∧ ((b - a) ≤ (9223372036854775807 : Int))) ∧ ((((-9223372036854775808 : Int) ≤ ((t.rtok (g.get xs ((ByteArray.mk (Array.mk [(115 : UInt8), (47 : UInt8)])) ++ s))) * (b - a))) ∧ (((t.rtok (g.get xs ((ByteArray.mk (Array.mk [(115 : UInt8), (47 : UInt8)])) ++ s))) * (b - a)) ≤ (9223372036854775807 : Int))) ∧ ((((0 : Int) < b) ∧ (((-9223372036854775808 : Int) ≤ ((t.rtok (g.get xs ((ByteArray.mk (Array.mk [(115 : UInt8), (47 : UInt8)])) ++ s))) * (b - a))) ∧ (((t.rtok (g.get xs ((ByteArray.mk (Array.mk [(115 : UInt8), (47 : UInt8)])) ++ s))) * (b - a)) ≤ (9223372036854775807 : Int)))) ∧ (((((-9223372036854775808 : Int) ≤ (std.quo ((t.rtok (g.get xs ((ByteArray.mk (Array.mk [(115 : UInt8), (47 : UInt8)])) ++ s))) * (b - a)) b)) ∧ ((std.quo ((t.rtok (g.get xs ((ByteArray.mk (Array.mk [(115 : UInt8), (47 : UInt8)])) ++ s))) * (b - a)) b) ≤ (9223372036854775807 : Int))) ∧ (((-9223372036854775808 : Int) ≤ (t.rrew (g.get xs ((ByteArray.mk (Array.mk [(115 : UInt8), (47 : UInt8)])) ++ s)))) ∧ ((t.rrew (g.get xs ((ByteArray.mk (Array.mk [(115 : UInt8), (47 : UInt8)])) ++ s))) ≤ (9223372036854775807 : Int)))) ∧ (((List.length xs) ≤ 1000000) ∧ ((((g.setok xs ((ByteArray.mk (Array.mk [(115 : UInt8), (47 : UInt8)])) ++ s) (t.rcd (std.quo ((t.rtok (g.get xs ((ByteArray.mk (Array.mk [(115 : UInt8), (47 : UInt8)])) ++ s))) * (b - a)) b) (t.rrew (g.get xs ((ByteArray.mk (Array.mk [(115 : UInt8), (47 : UInt8)])) ++ s))))) = true) → ((((List.length (g.set xs ((ByteArray.mk (Array.mk [(115 : UInt8), (47 : UInt8)])) ++ s) (t.rcd (std.quo ((t.rtok (g.get xs ((ByteArray.mk (Array.mk [(115 : UInt8), (47 : UInt8)])) ++ s))) * (b - a)) b) (t.rrew (g.get xs ((ByteArray.mk (Array.mk [(115 : UInt8), (47 : UInt8)])) ++ s)))))) ≤ 1000000) ∧ (∀ (i18 : Nat), ((i18 < (List.length (g.set xs ((ByteArray.mk (Array.mk [(115 : UInt8), (47 : UInt8)])) ++ s) (t.rcd (std.quo ((t.rtok (g.get xs ((ByteArray.mk (Array.mk [(115 : UInt8), (47 : UInt8)])) ++ s))) * (b - a)) b) (t.rrew (g.get xs ((ByteArray.mk (Array.mk [(115 : UInt8), (47 : UInt8)])) ++ s))))))) → ((std.slen (vP (g.set xs ((ByteArray.mk (Array.mk [(115 : UInt8), (47 : UInt8)])) ++ s) (t.rcd (std.quo ((t.rtok (g.get xs ((ByteArray.mk (Array.mk [(115 : UInt8), (47 : UInt8)])) ++ s))) * (b - a)) b) (t.rrew (g.get xs ((ByteArray.mk (Array.mk [(115 : UInt8), (47 : UInt8)])) ++ s))))) i18)) ≤ 4000000)))) ∧ ((((t.bok (g.set xs ((ByteArray.mk (Array.mk [(115 : UInt8), (47 : UInt8)])) ++ s) (t.rcd (std.quo ((t.rtok (g.get xs ((ByteArray.mk (Array.mk [(115 : UInt8), (47 : UInt8)])) ++ s))) * (b - a)) b) (t.rrew (g.get xs ((ByteArray.mk (Array.mk [(115 : UInt8), (47 : UInt8)])) ++ s)))))) = true) → ([(dsl zP (g.set xs ((ByteArray.mk (Array.mk [(115 : UInt8), (47 : UInt8)])) ++ s) (t.rcd (std.quo ((t.rtok (g.get xs ((ByteArray.mk (Array.mk [(115 : UInt8), (47 : UInt8)])) ++ s))) * (b - a)) b) (t.rrew (g.get xs ((ByteArray.mk (Array.mk [(115 : UInt8), (47 : UInt8)])) ++ s)))))), (Value.int IntKind.i64 (0 : Int))] = [(dsl zP (t.stk (3 : Int) xs s a b)), (Value.int IntKind.i64 (t.ster (3 : Int) xs s a b))])) ∧ (((t.bok (g.set xs ((ByteArray.mk (Array.mk [(115 : UInt8), (47 : UInt8)])) ++ s) (t.rcd (std.quo ((t.rtok (g.get xs ((ByteArray.mk (Array.mk [(115 : UInt8), (47 : UInt8)])) ++ s))) * (b - a)) b) (t.rrew (g.get xs ((ByteArray.mk (Array.mk [(115 : UInt8), (47 : UInt8)])) ++ s)))))) = false) → ([(dsl zP xs), (Value.int IntKind.i64 (11 : Int))] = [(dsl zP (t.stk (3 : Int) xs s a b)), (Value.int IntKind.i64 (t.ster (3 : Int) xs s a b))]))))) ∧ (((g.setok xs ((ByteArray.mk (Array.mk [(115 : UInt8), (47 : UInt8)])) ++ s) (t.rcd (std.quo ((t.rtok (g.get xs ((ByteArray.mk (Array.mk [(115 : UInt8), (47 : UInt8)])) ++ s))) * (b - a)) b) (t.rrew (g.get xs ((ByteArray.mk (Array.mk [(115 : UInt8), (47 : UInt8)])) ++ s))))) = false) → ([(dsl zP xs), (Value.int IntKind.i64 (7 : Int))] = [(dsl zP (t.stk (3 : Int) xs s a b)), (Value.int IntKind.i64 (t.ster (3 : Int) xs s a b))]))))))))))))))) ∧ (((t.rok (g.get xs ((ByteArray.mk (Array.mk [(115 : UInt8), (47 : UInt8)])) ++ s))) = false) → ([(dsl zP xs), (Value.int IntKind.i64 (1 : Int))] = [(dsl zP (t.stk (3 : Int) xs s a b)), (Value.int IntKind.i64 (t.ster (3 : Int) xs s a b))]))))) ∧ (((g.fd xs ((ByteArray.mk (Array.mk [(115 : UInt8), (47 : UInt8)])) ++ s)) = false) → (((std.slen (g.get xs ((ByteArray.mk (Array.mk [(115 : UInt8), (47 : UInt8)])) ++ s))) ≤ 4000000) ∧ ((((t.rok (g.get xs ((ByteArray.mk (Array.mk [(115 : UInt8), (47 : UInt8)])) ++ s))) = true) → ([(dsl zP xs), (Value.int IntKind.i64 (3 : Int))] = [(dsl zP (t.stk (3 : Int) xs s a b)), (Value.int IntKind.i64 (t.ster (3 : Int) xs s a b))])) ∧ (((t.rok (g.get xs ((ByteArray.mk (Array.mk [(115 : UInt8), (47 : UInt8)])) ++ s))) = false) → ([(dsl zP xs), (Value.int IntKind.i64 (3 : Int))] = [(dsl zP (t.stk (3 : Int) xs s a b)), (Value.int IntKind.i64 (t.ster (3 : Int) xs s a b))])))))))) ∧ (((decide (a ≤ (1073741824 : Int))) = false) → ([(dsl zP xs), (Value.int IntKind.i64 (1 : Int))] = [(dsl zP (t.stk (3 : Int) xs s a b)), (Value.int IntKind.i64 (t.ster (3 : Int) xs s a b))])))) ∧ (((decide ((0 : Int) ≤ a)) = false) → ([(dsl zP xs), (Value.int IntKind.i64 (1 : Int))] = [(dsl zP (t.stk (3 : Int) xs s a b)), (Value.int IntKind.i64 (t.ster (3 : Int) xs s a b))])))))))) := by kernel_rfl
set_option maxRecDepth 100000 in
theorem rstk_vc (g : KvF) (t : StF) (xs : List Value) (k : Int) (s : ByteArray) (a b : Int) : runP std (rstkCon std g t) 60 noL (rstkP std t) 17 Try.f17 (xs, k, s, a, b, ()) =
  ((((std.slen (ByteArray.mk (Array.mk [(115 : UInt8), (47 : UInt8)]))) + (std.slen s)) ≤ 9223372036854775807) ∧ ((((decide (((std.slen s) : Int) < (1 : Int))) = true) → ([(dsl zP xs), (Value.int IntKind.i64 (1 : Int))] = [(dsl zP (t.rstk k xs s a b)), (Value.int IntKind.i64 (t.rster k xs s a b))])) ∧ (((decide (((std.slen s) : Int) < (1 : Int))) = false) → ((((decide ((16 : Int) < ((std.slen ((ByteArray.mk (Array.mk [(115 : UInt8), (47 : UInt8)])) ++ s)) : Int))) = true) → ([(dsl zP xs), (Value.int IntKind.i64 (1 : Int))] = [(dsl zP (t.rstk k xs s a b)), (Value.int IntKind.i64 (t.rster k xs s a b))])) ∧ (((decide ((16 : Int) < ((std.slen ((ByteArray.mk (Array.mk [(115 : UInt8), (47 : UInt8)])) ++ s)) : Int))) = false) → ((((decide (a < (0 : Int))) = true) → ([(dsl zP xs), (Value.int IntKind.i64 (1 : Int))] = [(dsl zP (t.rstk k xs s a b)), (Value.int IntKind.i64 (t.rster k xs s a b))])) ∧ (((decide (a < (0 : Int))) = false) → ((((decide ((1073741824 : Int) < a)) = true) → ([(dsl zP xs), (Value.int IntKind.i64 (1 : Int))] = [(dsl zP (t.rstk k xs s a b)), (Value.int IntKind.i64 (t.rster k xs s a b))])) ∧ (((decide ((1073741824 : Int) < a)) = false) → ((((decide (k < (1 : Int))) = true) → ([(dsl zP xs), (Value.int IntKind.i64 (1 : Int))] = [(dsl zP (t.rstk k xs s a b)), (Value.int IntKind.i64 (t.rster k xs s a b))])) ∧ (((decide (k < (1 : Int))) = false) → ((((decide ((3 : Int) < k)) = true) → ([(dsl zP xs), (Value.int IntKind.i64 (1 : Int))] = [(dsl zP (t.rstk k xs s a b)), (Value.int IntKind.i64 (t.rster k xs s a b))])) ∧ (((decide ((3 : Int) < k)) = false) → (((List.length xs) ≤ 1000000) ∧ ((((decide ((g.rfirst xs ((ByteArray.mk (Array.mk [(115 : UInt8), (47 : UInt8)])) ++ s)) < ((List.length xs) : Int))) = true) → ((((0 : Int) ≤ (g.rfirst xs ((ByteArray.mk (Array.mk [(115 : UInt8), (47 : UInt8)])) ++ s))) ∧ ((g.rfirst xs ((ByteArray.mk (Array.mk [(115 : UInt8), (47 : UInt8)])) ++ s)) < ((List.length xs) : Int))) ∧ ((((std.seq (kP xs (Int.toNat (g.rfirst xs ((ByteArray.mk (Array.mk [(115 : UInt8), (47 : UInt8)])) ++ s)))) ((ByteArray.mk (Array.mk [(115 : UInt8), (47 : UInt8)])) ++ s)) = true) → ((((0 : Int) ≤ (g.rfirst xs ((ByteArray.mk (Array.mk [(115 : UInt8), (47 : UInt8)])) ++ s))) ∧ ((g.rfirst xs ((ByteArray.mk (Array.mk [(115 : UInt8), (47 : UInt8)])) ++ s)) < ((List.length xs) : Int))) ∧ (((std.slen (vP xs (Int.toNat (g.rfirst xs ((ByteArray.mk (Array.mk [(115 : UInt8), (47 : UInt8)])) ++ s))))) ≤ 4000000) ∧ ((((t.qok (vP xs (Int.toNat (g.rfirst xs ((ByteArray.mk (Array.mk [(115 : UInt8), (47 : UInt8)])) ++ s))))) = true) → ((((k == (1 : Int)) = true) → ((((-9223372036854775808 : Int) ≤ ((t.qtok (vP xs (Int.toNat (g.rfirst xs ((ByteArray.mk (Array.mk [(115 : UInt8), (47 : UInt8)])) ++ s))))) + a)) ∧ (((t.qtok (vP xs (Int.toNat (g.rfirst xs ((ByteArray.mk (Array.mk [(115 : UInt8), (47 : UInt8)])) ++ s))))) + a) ≤ (9223372036854775807 : Int))) ∧ (((((-9223372036854775808 : Int) ≤ ((t.qtok (vP xs (Int.toNat (g.rfirst xs ((ByteArray.mk (Array.mk [(115 : UInt8), (47 : UInt8)])) ++ s))))) + a)) ∧ (((t.qtok (vP xs (Int.toNat (g.rfirst xs ((ByteArray.mk (Array.mk [(115 : UInt8), (47 : UInt8)])) ++ s))))) + a) ≤ (9223372036854775807 : Int))) ∧ (((-9223372036854775808 : Int) ≤ (t.qrew (vP xs (Int.toNat (g.rfirst xs ((ByteArray.mk (Array.mk [(115 : UInt8), (47 : UInt8)])) ++ s)))))) ∧ ((t.qrew (vP xs (Int.toNat (g.rfirst xs ((ByteArray.mk (Array.mk [(115 : UInt8), (47 : UInt8)])) ++ s))))) ≤ (9223372036854775807 : Int)))) ∧ (((List.length xs) ≤ 1000000) ∧ ((((decide ((30 : Int) < ((List.length (g.rset xs ((ByteArray.mk (Array.mk [(115 : UInt8), (47 : UInt8)])) ++ s) (t.rrcd ((t.qtok (vP xs (Int.toNat (g.rfirst xs ((ByteArray.mk (Array.mk [(115 : UInt8), (47 : UInt8)])) ++ s))))) + a) (t.qrew (vP xs (Int.toNat (g.rfirst xs ((ByteArray.mk (Array.mk [(115 : UInt8), (47 : UInt8)])) ++ s)))))))) : Int))) = true) → ([(dsl zP xs), (Value.int IntKind.i64 (7 : Int))] = [(dsl zP (t.rstk k xs s a b)), (Value.int IntKind.i64 (t.rster k xs s a b))])) ∧ (((decide ((30 : Int) < ((List.length (g.rset xs ((ByteArray.mk (Array.mk [(115 : UInt8), (47 : UInt8)])) ++ s) (t.rrcd ((t.qtok (vP xs (Int.toNat (g.rfirst xs ((ByteArray.mk (Array.mk [(115 : UInt8), (47 : UInt8)])) ++ s))))) + a) (t.qrew (vP xs (Int.toNat (g.rfirst xs ((ByteArray.mk (Array.mk [(115 : UInt8), (47 : UInt8)])) ++ s)))))))) : Int))) = false) → ((((List.length (g.rset xs ((ByteArray.mk (Array.mk [(115 : UInt8), (47 : UInt8)])) ++ s) (t.rrcd ((t.qtok (vP xs (Int.toNat (g.rfirst xs ((ByteArray.mk (Array.mk [(115 : UInt8), (47 : UInt8)])) ++ s))))) + a) (t.qrew (vP xs (Int.toNat (g.rfirst xs ((ByteArray.mk (Array.mk [(115 : UInt8), (47 : UInt8)])) ++ s)))))))) ≤ 1000000) ∧ (∀ (i20 : Nat), ((i20 < (List.length (g.rset xs ((ByteArray.mk (Array.mk [(115 : UInt8), (47 : UInt8)])) ++ s) (t.rrcd ((t.qtok (vP xs (Int.toNat (g.rfirst xs ((ByteArray.mk (Array.mk [(115 : UInt8), (47 : UInt8)])) ++ s))))) + a) (t.qrew (vP xs (Int.toNat (g.rfirst xs ((ByteArray.mk (Array.mk [(115 : UInt8), (47 : UInt8)])) ++ s))))))))) → ((std.slen (vP (g.rset xs ((ByteArray.mk (Array.mk [(115 : UInt8), (47 : UInt8)])) ++ s) (t.rrcd ((t.qtok (vP xs (Int.toNat (g.rfirst xs ((ByteArray.mk (Array.mk [(115 : UInt8), (47 : UInt8)])) ++ s))))) + a) (t.qrew (vP xs (Int.toNat (g.rfirst xs ((ByteArray.mk (Array.mk [(115 : UInt8), (47 : UInt8)])) ++ s))))))) i20)) ≤ 4000000)))) ∧ ((((t.rbok (g.rset xs ((ByteArray.mk (Array.mk [(115 : UInt8), (47 : UInt8)])) ++ s) (t.rrcd ((t.qtok (vP xs (Int.toNat (g.rfirst xs ((ByteArray.mk (Array.mk [(115 : UInt8), (47 : UInt8)])) ++ s))))) + a) (t.qrew (vP xs (Int.toNat (g.rfirst xs ((ByteArray.mk (Array.mk [(115 : UInt8), (47 : UInt8)])) ++ s)))))))) = true) → ([(dsl zP (g.rset xs ((ByteArray.mk (Array.mk [(115 : UInt8), (47 : UInt8)])) ++ s) (t.rrcd ((t.qtok (vP xs (Int.toNat (g.rfirst xs ((ByteArray.mk (Array.mk [(115 : UInt8), (47 : UInt8)])) ++ s))))) + a) (t.qrew (vP xs (Int.toNat (g.rfirst xs ((ByteArray.mk (Array.mk [(115 : UInt8), (47 : UInt8)])) ++ s)))))))), (Value.int IntKind.i64 (0 : Int))] = [(dsl zP (t.rstk k xs s a b)), (Value.int IntKind.i64 (t.rster k xs s a b))])) ∧ (((t.rbok (g.rset xs ((ByteArray.mk (Array.mk [(115 : UInt8), (47 : UInt8)])) ++ s) (t.rrcd ((t.qtok (vP xs (Int.toNat (g.rfirst xs ((ByteArray.mk (Array.mk [(115 : UInt8), (47 : UInt8)])) ++ s))))) + a) (t.qrew (vP xs (Int.toNat (g.rfirst xs ((ByteArray.mk (Array.mk [(115 : UInt8), (47 : UInt8)])) ++ s)))))))) = false) → ([(dsl zP xs), (Value.int IntKind.i64 (11 : Int))] = [(dsl zP (t.rstk k xs s a b)), (Value.int IntKind.i64 (t.rster k xs s a b))])))))))))) ∧ (((k == (1 : Int)) = false) → ((((k == (2 : Int)) = true) → ((((-9223372036854775808 : Int) ≤ ((t.qrew (vP xs (Int.toNat (g.rfirst xs ((ByteArray.mk (Array.mk [(115 : UInt8), (47 : UInt8)])) ++ s))))) + a)) ∧ (((t.qrew (vP xs (Int.toNat (g.rfirst xs ((ByteArray.mk (Array.mk [(115 : UInt8), (47 : UInt8)])) ++ s))))) + a) ≤ (9223372036854775807 : Int))) ∧ (((((-9223372036854775808 : Int) ≤ (t.qtok (vP xs (Int.toNat (g.rfirst xs ((ByteArray.mk (Array.mk [(115 : UInt8), (47 : UInt8)])) ++ s)))))) ∧ ((t.qtok (vP xs (Int.toNat (g.rfirst xs ((ByteArray.mk (Array.mk [(115 : UInt8), (47 : UInt8)])) ++ s))))) ≤ (9223372036854775807 : Int))) ∧ (((-9223372036854775808 : Int) ≤ ((t.qrew (vP xs (Int.toNat (g.rfirst xs ((ByteArray.mk (Array.mk [(115 : UInt8), (47 : UInt8)])) ++ s))))) + a)) ∧ (((t.qrew (vP xs (Int.toNat (g.rfirst xs ((ByteArray.mk (Array.mk [(115 : UInt8), (47 : UInt8)])) ++ s))))) + a) ≤ (9223372036854775807 : Int)))) ∧ (((List.length xs) ≤ 1000000) ∧ ((((decide ((30 : Int) < ((List.length (g.rset xs ((ByteArray.mk (Array.mk [(115 : UInt8), (47 : UInt8)])) ++ s) (t.rrcd (t.qtok (vP xs (Int.toNat (g.rfirst xs ((ByteArray.mk (Array.mk [(115 : UInt8), (47 : UInt8)])) ++ s))))) ((t.qrew (vP xs (Int.toNat (g.rfirst xs ((ByteArray.mk (Array.mk [(115 : UInt8), (47 : UInt8)])) ++ s))))) + a)))) : Int))) = true) → ([(dsl zP xs), (Value.int IntKind.i64 (7 : Int))] = [(dsl zP (t.rstk k xs s a b)), (Value.int IntKind.i64 (t.rster k xs s a b))])) ∧ (((decide ((30 : Int) < ((List.length (g.rset xs ((ByteArray.mk (Array.mk [(115 : UInt8), (47 : UInt8)])) ++ s) (t.rrcd (t.qtok (vP xs (Int.toNat (g.rfirst xs ((ByteArray.mk (Array.mk [(115 : UInt8), (47 : UInt8)])) ++ s))))) ((t.qrew (vP xs (Int.toNat (g.rfirst xs ((ByteArray.mk (Array.mk [(115 : UInt8), (47 : UInt8)])) ++ s))))) + a)))) : Int))) = false) → ((((List.length (g.rset xs ((ByteArray.mk (Array.mk [(115 : UInt8), (47 : UInt8)])) ++ s) (t.rrcd (t.qtok (vP xs (Int.toNat (g.rfirst xs ((ByteArray.mk (Array.mk [(115 : UInt8), (47 : UInt8)])) ++ s))))) ((t.qrew (vP xs (Int.toNat (g.rfirst xs ((ByteArray.mk (Array.mk [(115 : UInt8), (47 : UInt8)])) ++ s))))) + a)))) ≤ 1000000) ∧ (∀ (i21 : Nat), ((i21 < (List.length (g.rset xs ((ByteArray.mk (Array.mk [(115 : UInt8), (47 : UInt8)])) ++ s) (t.rrcd (t.qtok (vP xs (Int.toNat (g.rfirst xs ((ByteArray.mk (Array.mk [(115 : UInt8), (47 : UInt8)])) ++ s))))) ((t.qrew (vP xs (Int.toNat (g.rfirst xs ((ByteArray.mk (Array.mk [(115 : UInt8), (47 : UInt8)])) ++ s))))) + a))))) → ((std.slen (vP (g.rset xs ((ByteArray.mk (Array.mk [(115 : UInt8), (47 : UInt8)])) ++ s) (t.rrcd (t.qtok (vP xs (Int.toNat (g.rfirst xs ((ByteArray.mk (Array.mk [(115 : UInt8), (47 : UInt8)])) ++ s))))) ((t.qrew (vP xs (Int.toNat (g.rfirst xs ((ByteArray.mk (Array.mk [(115 : UInt8), (47 : UInt8)])) ++ s))))) + a))) i21)) ≤ 4000000)))) ∧ ((((t.rbok (g.rset xs ((ByteArray.mk (Array.mk [(115 : UInt8), (47 : UInt8)])) ++ s) (t.rrcd (t.qtok (vP xs (Int.toNat (g.rfirst xs ((ByteArray.mk (Array.mk [(115 : UInt8), (47 : UInt8)])) ++ s))))) ((t.qrew (vP xs (Int.toNat (g.rfirst xs ((ByteArray.mk (Array.mk [(115 : UInt8), (47 : UInt8)])) ++ s))))) + a)))) = true) → ([(dsl zP (g.rset xs ((ByteArray.mk (Array.mk [(115 : UInt8), (47 : UInt8)])) ++ s) (t.rrcd (t.qtok (vP xs (Int.toNat (g.rfirst xs ((ByteArray.mk (Array.mk [(115 : UInt8), (47 : UInt8)])) ++ s))))) ((t.qrew (vP xs (Int.toNat (g.rfirst xs ((ByteArray.mk (Array.mk [(115 : UInt8), (47 : UInt8)])) ++ s))))) + a)))), (Value.int IntKind.i64 (0 : Int))] = [(dsl zP (t.rstk k xs s a b)), (Value.int IntKind.i64 (t.rster k xs s a b))])) ∧ (((t.rbok (g.rset xs ((ByteArray.mk (Array.mk [(115 : UInt8), (47 : UInt8)])) ++ s) (t.rrcd (t.qtok (vP xs (Int.toNat (g.rfirst xs ((ByteArray.mk (Array.mk [(115 : UInt8), (47 : UInt8)])) ++ s))))) ((t.qrew (vP xs (Int.toNat (g.rfirst xs ((ByteArray.mk (Array.mk [(115 : UInt8), (47 : UInt8)])) ++ s))))) + a)))) = false) → ([(dsl zP xs), (Value.int IntKind.i64 (11 : Int))] = [(dsl zP (t.rstk k xs s a b)), (Value.int IntKind.i64 (t.rster k xs s a b))])))))))))) ∧ (((k == (2 : Int)) = false) → ((((k == (3 : Int)) = true) → ((((decide (b < (1 : Int))) = true) → ([(dsl zP xs), (Value.int IntKind.i64 (1 : Int))] = [(dsl zP (t.rstk k xs s a b)), (Value.int IntKind.i64 (t.rster k xs s a b))])) ∧ (((decide (b < (1 : Int))) = false) → ((((decide ((1048576 : Int) < b)) = true) → ([(dsl zP xs), (Value.int IntKind.i64 (1 : Int))] = [(dsl zP (t.rstk k xs s a b)), (Value.int IntKind.i64 (t.rster k xs s a b))])) ∧ (((decide ((1048576 : Int) < b)) = false) → ((((decide (b < a)) = true) → ([(dsl zP xs), (Value.int IntKind.i64 (1 : Int))] = [(dsl zP (t.rstk k xs s a b)), (Value.int IntKind.i64 (t.rster k xs s a b))])) ∧ (((decide (b < a)) = false) → ((((-9223372036854775808 : Int) ≤ (b - a)) ∧ ((b - a) ≤ (9223372036854775807 : Int))) ∧ ((((-9223372036854775808 : Int) ≤ ((t.qtok (vP xs (Int.toNat (g.rfirst xs ((ByteArray.mk (Array.mk [(115 : UInt8), (47 : UInt8)])) ++ s))))) * (b - a))) ∧ (((t.qtok (vP xs (Int.toNat (g.rfirst xs ((ByteArray.mk (Array.mk [(115 : UInt8), (47 : UInt8)])) ++ s))))) * (b - a)) ≤ (9223372036854775807 : Int))) ∧ ((((0 : Int) < b) ∧ (((-9223372036854775808 : Int) ≤ ((t.qtok (vP xs (Int.toNat (g.rfirst xs ((ByteArray.mk (Array.mk [(115 : UInt8), (47 : UInt8)])) ++ s))))) * (b - a))) ∧ (((t.qtok (vP xs (Int.toNat (g.rfirst xs ((ByteArray.mk (Array.mk [(115 : UInt8), (47 : UInt8)])) ++ s))))) * (b - a)) ≤ (9223372036854775807 : Int)))) ∧ (((((-9223372036854775808 : Int) ≤ (std.quo ((t.qtok (vP xs (Int.toNat (g.rfirst xs ((ByteArray.mk (Array.mk [(115 : UInt8), (47 : UInt8)])) ++ s))))) * (b - a)) b)) ∧ ((std.quo ((t.qtok (vP xs (Int.toNat (g.rfirst xs ((ByteArray.mk (Array.mk [(115 : UInt8), (47 : UInt8)])) ++ s))))) * (b - a)) b) ≤ (9223372036854775807 : Int))) ∧ (((-9223372036854775808 : Int) ≤ (t.qrew (vP xs (Int.toNat (g.rfirst xs ((ByteArray.mk (Array.mk [(115 : UInt8), (47 : UInt8)])) ++ s)))))) ∧ ((t.qrew (vP xs (Int.toNat (g.rfirst xs ((ByteArray.mk (Array.mk [(115 : UInt8), (47 : UInt8)])) ++ s))))) ≤ (9223372036854775807 : Int)))) ∧ (((List.length xs) ≤ 1000000) ∧ ((((decide ((30 : Int) < (((List.length (g.rset xs ((ByteArray.mk (Array.mk [(115 : UInt8), (47 : UInt8)])) ++ s) (t.rrcd (std.quo ((t.qtok (vP xs (Int.toNat (g.rfirst xs ((ByteArray.mk (Array.mk [(115 : UInt8), (47 : UInt8)])) ++ s))))) * (b - a)) b) (t.qrew (vP xs (Int.toNat (g.rfirst xs ((ByteArray.mk (Array.mk [(115 : UInt8), (47 : UInt8)])) ++ s)))))))) : Nat) : Int))) = true) → ([(dsl zP xs), (Value.int IntKind.i64 (7 : Int))] = [(dsl zP (t.rstk k xs s a b)), (Value.int IntKind.i64 (t.rster k xs s a b))])) ∧ (((decide ((30 : Int) < (((List.length (g.rset xs ((ByteArray.mk (Array.mk [(115 : UInt8), (47 : UInt8)])) ++ s) (t.rrcd (std.quo ((t.qtok (vP xs (Int.toNat (g.rfirst xs ((ByteArray.mk (Array.mk [(115 : UInt8), (47 : UInt8)])) ++ s))))) * (b - a)) b) (t.qrew (vP xs (Int.toNat (g.rfirst xs ((ByteArray.mk (Array.mk [(115 : UInt8), (47 : UInt8)])) ++ s)))))))) : Nat) : Int))) = false) → ((((List.length (g.rset xs ((ByteArray.mk (Array.mk [(115 : UInt8), (47 : UInt8)])) ++ s) (t.rrcd (std.quo ((t.qtok (vP xs (Int.toNat (g.rfirst xs ((ByteArray.mk (Array.mk [(115 : UInt8), (47 : UInt8)])) ++ s))))) * (b - a)) b) (t.qrew (vP xs (Int.toNat (g.rfirst xs ((ByteArray.mk (Array.mk [(115 : UInt8), (47 : UInt8)])) ++ s)))))))) ≤ 1000000) ∧ (∀ (i25 : Nat), ((i25 < (List.length (g.rset xs ((ByteArray.mk (Array.mk [(115 : UInt8), (47 : UInt8)])) ++ s) (t.rrcd (std.quo ((t.qtok (vP xs (Int.toNat (g.rfirst xs ((ByteArray.mk (Array.mk [(115 : UInt8), (47 : UInt8)])) ++ s))))) * (b - a)) b) (t.qrew (vP xs (Int.toNat (g.rfirst xs ((ByteArray.mk (Array.mk [(115 : UInt8), (47 : UInt8)])) ++ s))))))))) → ((std.slen (vP (g.rset xs ((ByteArray.mk (Array.mk [(115 : UInt8), (47 : UInt8)])) ++ s) (t.rrcd (std.quo ((t.qtok (vP xs (Int.toNat (g.rfirst xs ((ByteArray.mk (Array.mk [(115 : UInt8), (47 : UInt8)])) ++ s))))) * (b - a)) b) (t.qrew (vP xs (Int.toNat (g.rfirst xs ((ByteArray.mk (Array.mk [(115 : UInt8), (47 : UInt8)])) ++ s))))))) i25)) ≤ 4000000)))) ∧ ((((t.rbok (g.rset xs ((ByteArray.mk (Array.mk [(115 : UInt8), (47 : UInt8)])) ++ s) (t.rrcd (std.quo ((t.qtok (vP xs (Int.toNat (g.rfirst xs ((ByteArray.mk (Array.mk [(115 : UInt8), (47 : UInt8)])) ++ s))))) * (b - a)) b) (t.qrew (vP xs (Int.toNat (g.rfirst xs ((ByteArray.mk (Array.mk [(115 : UInt8), (47 : UInt8)])) ++ s)))))))) = true) → ([(dsl zP (g.rset xs ((ByteArray.mk (Array.mk [(115 : UInt8), (47 : UInt8)])) ++ s) (t.rrcd (std.quo ((t.qtok (vP xs (Int.toNat (g.rfirst xs ((ByteArray.mk (Array.mk [(115 : UInt8), (47 : UInt8)])) ++ s))))) * (b - a)) b) (t.qrew (vP xs (Int.toNat (g.rfirst xs ((ByteArray.mk (Array.mk [(115 : UInt8), (47 : UInt8)])) ++ s)))))))), (Value.int IntKind.i64 (0 : Int))] = [(dsl zP (t.rstk k xs s a b)), (Value.int IntKind.i64 (t.rster k xs s a b))])) ∧ (((t.rbok (g.rset xs ((ByteArray.mk (Array.mk [(115 : UInt8), (47 : UInt8)])) ++ s) (t.rrcd (std.quo ((t.qtok (vP xs (Int.toNat (g.rfirst xs ((ByteArray.mk (Array.mk [(115 : UInt8), (47 : UInt8)])) ++ s))))) * (b - a)) b) (t.qrew (vP xs (Int.toNat (g.rfirst xs ((ByteArray.mk (Array.mk [(115 : UInt8), (47 : UInt8)])) ++ s)))))))) = false) → ([(dsl zP xs), (Value.int IntKind.i64 (11 : Int))] = [(dsl zP (t.rstk k xs s a b)), (Value.int IntKind.i64 (t.rster k xs s a b))])))))))))))))))))) ∧ (((k == (3 : Int)) = false) → (((((-9223372036854775808 : Int) ≤ (t.qtok (vP xs (Int.toNat (g.rfirst xs ((ByteArray.mk (Array.mk [(115 : UInt8), (47 : UInt8)])) ++ s)))))) ∧ ((t.qtok (vP xs (Int.toNat (g.rfirst xs ((ByteArray.mk (Array.mk [(115 : UInt8), (47 : UInt8)])) ++ s))))) ≤ (9223372036854775807 : Int))) ∧ (((-9223372036854775808 : Int) ≤ (t.qrew (vP xs (Int.toNat (g.rfirst xs ((ByteArray.mk (Array.mk [(115 : UInt8), (47 : UInt8)])) ++ s)))))) ∧ ((t.qrew (vP xs (Int.toNat (g.rfirst xs ((ByteArray.mk (Array.mk [(115 : UInt8), (47 : UInt8)])) ++ s))))) ≤ (9223372036854775807 : Int)))) ∧ (((List.length xs) ≤ 1000000) ∧ ((((decide ((30 : Int) < ((List.length (g.rset xs ((ByteArray.mk (Array.mk [(115 : UInt8), (47 : UInt8)])) ++ s) (t.rrcd (t.qtok (vP xs (Int.toNat (g.rfirst xs ((ByteArray.mk (Array.mk [(115 : UInt8), (47 : UInt8)])) ++ s))))) (t.qrew (vP xs (Int.toNat (g.rfirst xs ((ByteArray.mk (Array.mk [(115 : UInt8), (47 : UInt8)])) ++ s)))))))) : Int))) = true) → ([(dsl zP xs), (Value.int IntKind.i64 (7 : Int))] = [(dsl zP (t.rstk k xs s a b)), (Value.int IntKind.i64 (t.rster k xs s a b))])) ∧ (((decide ((30 : Int) < ((List.length (g.rset xs ((ByteArray.mk (Array.mk [(115 : UInt8), (47 : UInt8)])) ++ s) (t.rrcd (t.qtok (vP xs (Int.toNat (g.rfirst xs ((ByteArray.mk (Array.mk [(115 : UInt8), (47 : UInt8)])) ++ s))))) (t.qrew (vP xs (Int.toNat (g.rfirst xs ((ByteArray.mk (Array.mk [(115 : UInt8), (47 : UInt8)])) ++ s)))))))) : Int))) = false) → ((((List.length (g.rset xs ((ByteArray.mk (Array.mk [(115 : UInt8), (47 : UInt8)])) ++ s) (t.rrcd (t.qtok (vP xs (Int.toNat (g.rfirst xs ((ByteArray.mk (Array.mk [(115 : UInt8), (47 : UInt8)])) ++ s))))) (t.qrew (vP xs (Int.toNat (g.rfirst xs ((ByteArray.mk (Array.mk [(115 : UInt8), (47 : UInt8)])) ++ s)))))))) ≤ 1000000) ∧ (∀ (i22 : Nat), ((i22 < (List.length (g.rset xs ((ByteArray.mk (Array.mk [(115 : UInt8), (47 : UInt8)])) ++ s) (t.rrcd (t.qtok (vP xs (Int.toNat (g.rfirst xs ((ByteArray.mk (Array.mk [(115 : UInt8), (47 : UInt8)])) ++ s))))) (t.qrew (vP xs (Int.toNat (g.rfirst xs ((ByteArray.mk (Array.mk [(115 : UInt8), (47 : UInt8)])) ++ s))))))))) → ((std.slen (vP (g.rset xs ((ByteArray.mk (Array.mk [(115 : UInt8), (47 : UInt8)])) ++ s) (t.rrcd (t.qtok (vP xs (Int.toNat (g.rfirst xs ((ByteArray.mk (Array.mk [(115 : UInt8), (47 : UInt8)])) ++ s))))) (t.qrew (vP xs (Int.toNat (g.rfirst xs ((ByteArray.mk (Array.mk [(115 : UInt8), (47 : UInt8)])) ++ s))))))) i22)) ≤ 4000000)))) ∧ ((((t.rbok (g.rset xs ((ByteArray.mk (Array.mk [(115 : UInt8), (47 : UInt8)])) ++ s) (t.rrcd (t.qtok (vP xs (Int.toNat (g.rfirst xs ((ByteArray.mk (Array.mk [(115 : UInt8), (47 : UInt8)])) ++ s))))) (t.qrew (vP xs (Int.toNat (g.rfirst xs ((ByteArray.mk (Array.mk [(115 : UInt8), (47 : UInt8)])) ++ s)))))))) = true) → ([(dsl zP (g.rset xs ((ByteArray.mk (Array.mk [(115 : UInt8), (47 : UInt8)])) ++ s) (t.rrcd (t.qtok (vP xs (Int.toNat (g.rfirst xs ((ByteArray.mk (Array.mk [(115 : UInt8), (47 : UInt8)])) ++ s))))) (t.qrew (vP xs (Int.toNat (g.rfirst xs ((ByteArray.mk (Array.mk [(115 : UInt8), (47 : UInt8)])) ++ s)))))))), (Value.int IntKind.i64 (0 : Int))] = [(dsl zP (t.rstk k xs s a b)), (Value.int IntKind.i64 (t.rster k xs s a b))])) ∧ (((t.rbok (g.rset xs ((ByteArray.mk (Array.mk [(115 : UInt8), (47 : UInt8)])) ++ s) (t.rrcd (t.qtok (vP xs (Int.toNat (g.rfirst xs ((ByteArray.mk (Array.mk [(115 : UInt8), (47 : UInt8)])) ++ s))))) (t.qrew (vP xs (Int.toNat (g.rfirst xs ((ByteArray.mk (Array.mk [(115 : UInt8), (47 : UInt8)])) ++ s)))))))) = false) → ([(dsl zP xs), (Value.int IntKind.i64 (11 : Int))] = [(dsl zP (t.rstk k xs s a b)), (Value.int IntKind.i64 (t.rster k xs s a b))]))))))))))))))) ∧ (((t.qok (vP xs (Int.toNat (g.rfirst xs ((ByteArray.mk (Array.mk [(115 : UInt8), (47 : UInt8)])) ++ s))))) = false) → ([(dsl zP xs), (Value.int IntKind.i64 (1 : Int))] = [(dsl zP (t.rstk k xs s a b)), (Value.int IntKind.i64 (t.rster k xs s a b))])))))) ∧ (((std.seq (kP xs (Int.toNat (g.rfirst xs ((ByteArray.mk (Array.mk [(115 : UInt8), (47 : UInt8)])) ++ s)))) ((ByteArray.mk (Array.mk [(115 : UInt8), (47 : UInt8)])) ++ s)) = false) → ((((k == (1 : Int)) = true) → ((((-9223372036854775808 : Int) ≤ ((0 : Int) + a)) ∧ (((0 : Int) + a) ≤ (9223372036854775807 : Int))) ∧ (((((-9223372036854775808 : Int) ≤ ((0 : Int) + a)) ∧ (((0 : Int) + a) ≤ (9223372036854775807 : Int))) ∧ (((-9223372036854775808 : Int) ≤ (0 : Int)) ∧ ((0 : Int) ≤ (9223372036854775807 : Int)))) ∧ (((List.length xs) ≤ 1000000) ∧ ((((decide ((30 : Int) < ((List.length (g.rset xs ((ByteArray.mk (Array.mk [(115 : UInt8), (47 : UInt8)])) ++ s) (t.rrcd ((0 : Int) + a) (0 : Int)))) : Int))) = true) → ([(dsl zP xs), (Value.int IntKind.i64 (7 : Int))] = [(dsl zP (t.rstk k xs s a b)), (Value.int IntKind.i64 (t.rster k xs s a b))])) ∧ (((decide ((30 : Int) < ((List.length (g.rset xs ((ByteArray.mk (Array.mk [(115 : UInt8), (47 : UInt8)])) ++ s) (t.rrcd ((0 : Int) + a) (0 : Int)))) : Int))) = false) → ((((List.length (g.rset xs ((ByteArray.mk (Array.mk [(115 : UInt8), (47 : UInt8)])) ++ s) (t.rrcd ((0 : Int) + a) (0 : Int)))) ≤ 1000000) ∧ (∀ (i19 : Nat), ((i19 < (List.length (g.rset xs ((ByteArray.mk (Array.mk [(115 : UInt8), (47 : UInt8)])) ++ s) (t.rrcd ((0 : Int) + a) (0 : Int))))) → ((std.slen (vP (g.rset xs ((ByteArray.mk (Array.mk [(115 : UInt8), (47 : UInt8)])) ++ s) (t.rrcd ((0 : Int) + a) (0 : Int))) i19)) ≤ 4000000)))) ∧ ((((t.rbok (g.rset xs ((ByteArray.mk (Array.mk [(115 : UInt8), (47 : UInt8)])) ++ s) (t.rrcd ((0 : Int) + a) (0 : Int)))) = true) → ([(dsl zP (g.rset xs ((ByteArray.mk (Array.mk [(115 : UInt8), (47 : UInt8)])) ++ s) (t.rrcd ((0 : Int) + a) (0 : Int)))), (Value.int IntKind.i64 (0 : Int))] = [(dsl zP (t.rstk k xs s a b)), (Value.int IntKind.i64 (t.rster k xs s a b))])) ∧ (((t.rbok (g.rset xs ((ByteArray.mk (Array.mk [(115 : UInt8), (47 : UInt8)])) ++ s) (t.rrcd ((0 : Int) + a) (0 : Int)))) = false) → ([(dsl zP xs), (Value.int IntKind.i64 (11 : Int))] = [(dsl zP (t.rstk k xs s a b)), (Value.int IntKind.i64 (t.rster k xs s a b))])))))))))) ∧ (((k == (1 : Int)) = false) → ((((k == (2 : Int)) = true) → ([(dsl zP xs), (Value.int IntKind.i64 (3 : Int))] = [(dsl zP (t.rstk k xs s a b)), (Value.int IntKind.i64 (t.rster k xs s a b))])) ∧ (((k == (2 : Int)) = false) → ((((k == (3 : Int)) = true) → ([(dsl zP xs), (Value.int IntKind.i64 (3 : Int))] = [(dsl zP (t.rstk k xs s a b)), (Value.int IntKind.i64 (t.rster k xs s a b))])) ∧ (((k == (3 : Int)) = false) → (((((-9223372036854775808 : Int) ≤ (0 : Int)) ∧ ((0 : Int) ≤ (9223372036854775807 : Int))) ∧ (((-9223372036854775808 : Int) ≤ (0 : Int)) ∧ ((0 : Int) ≤ (9223372036854775807 : Int)))) ∧ (((List.length xs) ≤ 1000000) ∧ ((((decide ((30 : Int) < ((List.length (g.rset xs ((ByteArray.mk (Array.mk [(115 : UInt8), (47 : UInt8)])) ++ s) (t.rrcd (0 : Int) (0 : Int)))) : Int))) = true) → ([(dsl zP xs), (Value.int IntKind.i64 (7 : Int))] = [(dsl zP (t.rstk k xs s a b)), (Value.int IntKind.i64 (t.rster k xs s a b))])) ∧ (((decide ((30 : Int) < ((List.length (g.rset xs ((ByteArray.mk (Array.mk [(115 : UInt8), (47 : UInt8)])) ++ s) (t.rrcd (0 : Int) (0 : Int)))) : Int))) = false) → ((((List.length (g.rset xs ((ByteArray.mk (Array.mk [(115 : UInt8), (47 : UInt8)])) ++ s) (t.rrcd (0 : Int) (0 : Int)))) ≤ 1000000) ∧ (∀ (i21 : Nat), ((i21 < (List.length (g.rset xs ((ByteArray.mk (Array.mk [(115 : UInt8), (47 : UInt8)])) ++ s) (t.rrcd (0 : Int) (0 : Int))))) → ((std.slen (vP (g.rset xs ((ByteArray.mk (Array.mk [(115 : UInt8), (47 : UInt8)])) ++ s) (t.rrcd (0 : Int) (0 : Int))) i21)) ≤ 4000000)))) ∧ ((((t.rbok (g.rset xs ((ByteArray.mk (Array.mk [(115 : UInt8), (47 : UInt8)])) ++ s) (t.rrcd (0 : Int) (0 : Int)))) = true) → ([(dsl zP (g.rset xs ((ByteArray.mk (Array.mk [(115 : UInt8), (47 : UInt8)])) ++ s) (t.rrcd (0 : Int) (0 : Int)))), (Value.int IntKind.i64 (0 : Int))] = [(dsl zP (t.rstk k xs s a b)), (Value.int IntKind.i64 (t.rster k xs s a b))])) ∧ (((t.rbok (g.rset xs ((ByteArray.mk (Array.mk [(115 : UInt8), (47 : UInt8)])) ++ s) (t.rrcd (0 : Int) (0 : Int)))) = false) → ([(dsl zP xs), (Value.int IntKind.i64 (11 : Int))] = [(dsl zP (t.rstk k xs s a b)), (Value.int IntKind.i64 (t.rster k xs s a b))])))))))))))))))))) ∧ (((decide ((g.rfirst xs ((ByteArray.mk (Array.mk [(115 : UInt8), (47 : UInt8)])) ++ s)) < ((List.length xs) : Int))) = false) → ((((k == (1 : Int)) = true) → ((((-9223372036854775808 : Int) ≤ ((0 : Int) + a)) ∧ (((0 : Int) + a) ≤ (9223372036854775807 : Int))) ∧ (((((-9223372036854775808 : Int) ≤ ((0 : Int) + a)) ∧ (((0 : Int) + a) ≤ (9223372036854775807 : Int))) ∧ (((-9223372036854775808 : Int) ≤ (0 : Int)) ∧ ((0 : Int) ≤ (9223372036854775807 : Int)))) ∧ (((List.length xs) ≤ 1000000) ∧ ((((decide ((30 : Int) < ((List.length (g.rset xs ((ByteArray.mk (Array.mk [(115 : UInt8), (47 : UInt8)])) ++ s) (t.rrcd ((0 : Int) + a) (0 : Int)))) : Int))) = true) → ([(dsl zP xs), (Value.int IntKind.i64 (7 : Int))] = [(dsl zP (t.rstk k xs s a b)), (Value.int IntKind.i64 (t.rster k xs s a b))])) ∧ (((decide ((30 : Int) < ((List.length (g.rset xs ((ByteArray.mk (Array.mk [(115 : UInt8), (47 : UInt8)])) ++ s) (t.rrcd ((0 : Int) + a) (0 : Int)))) : Int))) = false) → ((((List.length (g.rset xs ((ByteArray.mk (Array.mk [(115 : UInt8), (47 : UInt8)])) ++ s) (t.rrcd ((0 : Int) + a) (0 : Int)))) ≤ 1000000) ∧ (∀ (i18 : Nat), ((i18 < (List.length (g.rset xs ((ByteArray.mk (Array.mk [(115 : UInt8), (47 : UInt8)])) ++ s) (t.rrcd ((0 : Int) + a) (0 : Int))))) → ((std.slen (vP (g.rset xs ((ByteArray.mk (Array.mk [(115 : UInt8), (47 : UInt8)])) ++ s) (t.rrcd ((0 : Int) + a) (0 : Int))) i18)) ≤ 4000000)))) ∧ ((((t.rbok (g.rset xs ((ByteArray.mk (Array.mk [(115 : UInt8), (47 : UInt8)])) ++ s) (t.rrcd ((0 : Int) + a) (0 : Int)))) = true) → ([(dsl zP (g.rset xs ((ByteArray.mk (Array.mk [(115 : UInt8), (47 : UInt8)])) ++ s) (t.rrcd ((0 : Int) + a) (0 : Int)))), (Value.int IntKind.i64 (0 : Int))] = [(dsl zP (t.rstk k xs s a b)), (Value.int IntKind.i64 (t.rster k xs s a b))])) ∧ (((t.rbok (g.rset xs ((ByteArray.mk (Array.mk [(115 : UInt8), (47 : UInt8)])) ++ s) (t.rrcd ((0 : Int) + a) (0 : Int)))) = false) → ([(dsl zP xs), (Value.int IntKind.i64 (11 : Int))] = [(dsl zP (t.rstk k xs s a b)), (Value.int IntKind.i64 (t.rster k xs s a b))])))))))))) ∧ (((k == (1 : Int)) = false) → ((((k == (2 : Int)) = true) → ([(dsl zP xs), (Value.int IntKind.i64 (3 : Int))] = [(dsl zP (t.rstk k xs s a b)), (Value.int IntKind.i64 (t.rster k xs s a b))])) ∧ (((k == (2 : Int)) = false) → ((((k == (3 : Int)) = true) → ([(dsl zP xs), (Value.int IntKind.i64 (3 : Int))] = [(dsl zP (t.rstk k xs s a b)), (Value.int IntKind.i64 (t.rster k xs s a b))])) ∧ (((k == (3 : Int)) = false) → (((((-9223372036854775808 : Int) ≤ (0 : Int)) ∧ ((0 : Int) ≤ (9223372036854775807 : Int))) ∧ (((-9223372036854775808 : Int) ≤ (0 : Int)) ∧ ((0 : Int) ≤ (9223372036854775807 : Int)))) ∧ (((List.length xs) ≤ 1000000) ∧ ((((decide ((30 : Int) < ((List.length (g.rset xs ((ByteArray.mk (Array.mk [(115 : UInt8), (47 : UInt8)])) ++ s) (t.rrcd (0 : Int) (0 : Int)))) : Int))) = true) → ([(dsl zP xs), (Value.int IntKind.i64 (7 : Int))] = [(dsl zP (t.rstk k xs s a b)), (Value.int IntKind.i64 (t.rster k xs s a b))])) ∧ (((decide ((30 : Int) < ((List.length (g.rset xs ((ByteArray.mk (Array.mk [(115 : UInt8), (47 : UInt8)])) ++ s) (t.rrcd (0 : Int) (0 : Int)))) : Int))) = false) → ((((List.length (g.rset xs ((ByteArray.mk (Array.mk [(115 : UInt8), (47 : UInt8)])) ++ s) (t.rrcd (0 : Int) (0 : Int)))) ≤ 1000000) ∧ (∀ (i20 : Nat), ((i20 < (List.length (g.rset xs ((ByteArray.mk (Array.mk [(115 : UInt8), (47 : UInt8)])) ++ s) (t.rrcd (0 : Int) (0 : Int))))) → ((std.slen (vP (g.rset xs ((ByteArray.mk (Array.mk [(115 : UInt8), (47 : UInt8)])) ++ s) (t.rrcd (0 : Int) (0 : Int))) i20)) ≤ 4000000)))) ∧ ((((t.rbok (g.rset xs ((ByteArray.mk (Array.mk [(115 : UInt8), (47 : UInt8)])) ++ s) (t.rrcd (0 : Int) (0 : Int)))) = true) → ([(dsl zP (g.rset xs ((ByteArray.mk (Array.mk [(115 : UInt8), (47 : UInt8)])) ++ s) (t.rrcd (0 : Int) (0 : Int)))), (Value.int IntKind.i64 (0 : Int))] = [(dsl zP (t.rstk k xs s a b)), (Value.int IntKind.i64 (t.rster k xs s a b))])) ∧ (((t.rbok (g.rset xs ((ByteArray.mk (Array.mk [(115 : UInt8), (47 : UInt8)])) ++ s) (t.rrcd (0 : Int) (0 : Int)))) = false) → ([(dsl zP xs), (Value.int IntKind.i64 (11 : Int))] = [(dsl zP (t.rstk k xs s a b)), (Value.int IntKind.i64 (t.rster k xs s a b))])))))))))))))))))))))))))))))) := by kernel_rfl
end Go.Proofs.Ytecdmdglkkeidaa
end
section
namespace Go.Proofs.Ytecdmdglkkeidaa
open Go.Abs Go
set_option maxRecDepth 100000
def tailP (g : KvF) (xs ps : List Value) (I : PlL → Prop) (m : PlL → Nat) (dd : PlL) (PA PB : List Value) : Prop :=
  (((List.length PA) ≤ 1000000) ∧ ((((g.fd PA (g.key (eI xs (Int.toNat (dd.i))))) = true) → (((List.length PB) ≤ 1000000) ∧ ((((decide ((g.rfirst PB (g.key (eI xs (Int.toNat (dd.i))))) < ((List.length PB) : Int))) = true) → ((((0 : Int) ≤ (g.rfirst PB (g.key (eI xs (Int.toNat (dd.i)))))) ∧ ((g.rfirst PB (g.key (eI xs (Int.toNat (dd.i))))) < ((List.length PB) : Int))) ∧ ((((std.seq (kP PB (Int.toNat (g.rfirst PB (g.key (eI xs (Int.toNat (dd.i))))))) (g.key (eI xs (Int.toNat (dd.i))))) = true) → (((List.length PA) ≤ 1000000) ∧ ((((g.same PA PB) = true) → (((List.length PA) ≤ 1000000) ∧ ((((g.right PA) = true) → ((((0 : Int) ≤ (g.rfirst PB (g.key (eI xs (Int.toNat (dd.i)))))) ∧ ((g.rfirst PB (g.key (eI xs (Int.toNat (dd.i))))) < ((List.length PB) : Int))) ∧ ((((!(std.seq (g.get PA (g.key (eI xs (Int.toNat (dd.i))))) (vP PB (Int.toNat (g.rfirst PB (g.key (eI xs (Int.toNat (dd.i))))))))) = true) → ([(Value.bool false)] = [(Value.bool true)])) ∧ (((!(std.seq (g.get PA (g.key (eI xs (Int.toNat (dd.i))))) (vP PB (Int.toNat (g.rfirst PB (g.key (eI xs (Int.toNat (dd.i))))))))) = false) → (((List.length (dd.a)) ≤ 1000000) ∧ ((((g.same (dd.a) (dd.a)) = true) → (((List.length PA) ≤ 1000000) ∧ ((((!((g.bs PA (g.key (eI xs (Int.toNat (dd.i))))) == (g.rfirst PB (g.key (eI xs (Int.toNat (dd.i))))))) = true) → ([(Value.bool false)] = [(Value.bool true)])) ∧ (((!((g.bs PA (g.key (eI xs (Int.toNat (dd.i))))) == (g.rfirst PB (g.key (eI xs (Int.toNat (dd.i))))))) = false) → ((((-9223372036854775808 : Int) ≤ ((dd.i) + (1 : Int))) ∧ (((dd.i) + (1 : Int)) ≤ (9223372036854775807 : Int))) ∧ (∃ (ee : PlL), (([(Filler.dl xs), (Filler.dl ps), (Filler.dl (ee.a)), (Filler.dl (ee.b)), (Filler.val (Value.int IntKind.i64 (ee.i)))] = [(Filler.dl xs), (Filler.dl ps), (Filler.dl PA), (Filler.dl PB), (Filler.val (Value.int IntKind.i64 ((dd.i) + (1 : Int))))]) ∧ ((Nat.le (Nat.succ (m ee)) (m dd)) ∧ (I ee))))))))) ∧ (((g.same (dd.a) (dd.a)) = false) → ([(Value.bool false)] = [(Value.bool true)])))))))) ∧ (((g.right PA) = false) → ([(Value.bool false)] = [(Value.bool true)]))))) ∧ (((g.same PA PB) = false) → ([(Value.bool false)] = [(Value.bool true)]))))) ∧ (((std.seq (kP PB (Int.toNat (g.rfirst PB (g.key (eI xs (Int.toNat (dd.i))))))) (g.key (eI xs (Int.toNat (dd.i))))) = false) → (((List.length PA) ≤ 1000000) ∧ ((((g.same PA PB) = true) → (((List.length PA) ≤ 1000000) ∧ ((((g.right PA) = true) → ([(Value.bool false)] = [(Value.bool true)])) ∧ (((g.right PA) = false) → ([(Value.bool false)] = [(Value.bool true)]))))) ∧ (((g.same PA PB) = false) → ([(Value.bool false)] = [(Value.bool true)])))))))) ∧ (((decide ((g.rfirst PB (g.key (eI xs (Int.toNat (dd.i))))) < ((List.length PB) : Int))) = false) → (((List.length PA) ≤ 1000000) ∧ ((((g.same PA PB) = true) → (((List.length PA) ≤ 1000000) ∧ ((((g.right PA) = true) → ([(Value.bool false)] = [(Value.bool true)])) ∧ (((g.right PA) = false) → ([(Value.bool false)] = [(Value.bool true)]))))) ∧ (((g.same PA PB) = false) → ([(Value.bool false)] = [(Value.bool true)])))))))) ∧ (((g.fd PA (g.key (eI xs (Int.toNat (dd.i))))) = false) → (((List.length PB) ≤ 1000000) ∧ ((((decide ((g.rfirst PB (g.key (eI xs (Int.toNat (dd.i))))) < ((List.length PB) : Int))) = true) → ((((0 : Int) ≤ (g.rfirst PB (g.key (eI xs (Int.toNat (dd.i)))))) ∧ ((g.rfirst PB (g.key (eI xs (Int.toNat (dd.i))))) < ((List.length PB) : Int))) ∧ ((((std.seq (kP PB (Int.toNat (g.rfirst PB (g.key (eI xs (Int.toNat (dd.i))))))) (g.key (eI xs (Int.toNat (dd.i))))) = true) → (((List.length PA) ≤ 1000000) ∧ ((((g.same PA PB) = true) → (((List.length PA) ≤ 1000000) ∧ ((((g.right PA) = true) → ([(Value.bool false)] = [(Value.bool true)])) ∧ (((g.right PA) = false) → ([(Value.bool false)] = [(Value.bool true)]))))) ∧ (((g.same PA PB) = false) → ([(Value.bool false)] = [(Value.bool true)]))))) ∧ (((std.seq (kP PB (Int.toNat (g.rfirst PB (g.key (eI xs (Int.toNat (dd.i))))))) (g.key (eI xs (Int.toNat (dd.i))))) = false) → (((List.length PA) ≤ 1000000) ∧ ((((g.same PA PB) = true) → (((List.length PA) ≤ 1000000) ∧ ((((g.right PA) = true) → ((((!(std.seq (g.get PA (g.key (eI xs (Int.toNat (dd.i))))) (ByteArray.mk (Array.mk [])))) = true) → ([(Value.bool false)] = [(Value.bool true)])) ∧ (((!(std.seq (g.get PA (g.key (eI xs (Int.toNat (dd.i))))) (ByteArray.mk (Array.mk [])))) = false) → (((List.length (dd.a)) ≤ 1000000) ∧ ((((g.same (dd.a) (dd.a)) = true) → (((List.length PA) ≤ 1000000) ∧ ((((!((g.bs PA (g.key (eI xs (Int.toNat (dd.i))))) == (g.rfirst PB (g.key (eI xs (Int.toNat (dd.i))))))) = true) → ([(Value.bool false)] = [(Value.bool true)])) ∧ (((!((g.bs PA (g.key (eI xs (Int.toNat (dd.i))))) == (g.rfirst PB (g.key (eI xs (Int.toNat (dd.i))))))) = false) → ((((-9223372036854775808 : Int) ≤ ((dd.i) + (1 : Int))) ∧ (((dd.i) + (1 : Int)) ≤ (9223372036854775807 : Int))) ∧ (∃ (ee : PlL), (([(Filler.dl xs), (Filler.dl ps), (Filler.dl (ee.a)), (Filler.dl (ee.b)), (Filler.val (Value.int IntKind.i64 (ee.i)))] = [(Filler.dl xs), (Filler.dl ps), (Filler.dl PA), (Filler.dl PB), (Filler.val (Value.int IntKind.i64 ((dd.i) + (1 : Int))))]) ∧ ((Nat.le (Nat.succ (m ee)) (m dd)) ∧ (I ee))))))))) ∧ (((g.same (dd.a) (dd.a)) = false) → ([(Value.bool false)] = [(Value.bool true)]))))))) ∧ (((g.right PA) = false) → ([(Value.bool false)] = [(Value.bool true)]))))) ∧ (((g.same PA PB) = false) → ([(Value.bool false)] = [(Value.bool true)])))))))) ∧ (((decide ((g.rfirst PB (g.key (eI xs (Int.toNat (dd.i))))) < ((List.length PB) : Int))) = false) → (((List.length PA) ≤ 1000000) ∧ ((((g.same PA PB) = true) → (((List.length PA) ≤ 1000000) ∧ ((((g.right PA) = true) → ((((!(std.seq (g.get PA (g.key (eI xs (Int.toNat (dd.i))))) (ByteArray.mk (Array.mk [])))) = true) → ([(Value.bool false)] = [(Value.bool true)])) ∧ (((!(std.seq (g.get PA (g.key (eI xs (Int.toNat (dd.i))))) (ByteArray.mk (Array.mk [])))) = false) → (((List.length (dd.a)) ≤ 1000000) ∧ ((((g.same (dd.a) (dd.a)) = true) → (((List.length PA) ≤ 1000000) ∧ ((((!((g.bs PA (g.key (eI xs (Int.toNat (dd.i))))) == (g.rfirst PB (g.key (eI xs (Int.toNat (dd.i))))))) = true) → ([(Value.bool false)] = [(Value.bool true)])) ∧ (((!((g.bs PA (g.key (eI xs (Int.toNat (dd.i))))) == (g.rfirst PB (g.key (eI xs (Int.toNat (dd.i))))))) = false) → ((((-9223372036854775808 : Int) ≤ ((dd.i) + (1 : Int))) ∧ (((dd.i) + (1 : Int)) ≤ (9223372036854775807 : Int))) ∧ (∃ (ee : PlL), (([(Filler.dl xs), (Filler.dl ps), (Filler.dl (ee.a)), (Filler.dl (ee.b)), (Filler.val (Value.int IntKind.i64 (ee.i)))] = [(Filler.dl xs), (Filler.dl ps), (Filler.dl PA), (Filler.dl PB), (Filler.val (Value.int IntKind.i64 ((dd.i) + (1 : Int))))]) ∧ ((Nat.le (Nat.succ (m ee)) (m dd)) ∧ (I ee))))))))) ∧ (((g.same (dd.a) (dd.a)) = false) → ([(Value.bool false)] = [(Value.bool true)]))))))) ∧ (((g.right PA) = false) → ([(Value.bool false)] = [(Value.bool true)]))))) ∧ (((g.same PA PB) = false) → ([(Value.bool false)] = [(Value.bool true)]))))))))))
def bodyP (g : KvF) (xs ps : List Value) (I : PlL → Prop) (m : PlL → Nat) (dd : PlL) (PA PB : ByteArray) : Prop :=
  ((((List.length (dd.a)) * 32) ≤ 140737488355328) ∧ ((((0 : Int) ≤ (dd.i)) ∧ ((dd.i) < ((List.length xs) : Int))) ∧ (((0 : Int) < (5 : Int)) ∧ (((((std.rem (eI xs (Int.toNat (dd.i))) (5 : Int)) == (4 : Int)) = true) → (((List.length (dd.a)) ≤ 1000000) ∧ (((List.length (dd.b)) ≤ 1000000) ∧ (tailP g xs ps I m dd (g.del (dd.a) (g.key (eI xs (Int.toNat (dd.i))))) (g.rdel (dd.b) (g.key (eI xs (Int.toNat (dd.i))))))))) ∧ ((((std.rem (eI xs (Int.toNat (dd.i))) (5 : Int)) == (4 : Int)) = false) → (((List.length (dd.a)) ≤ 1000000) ∧ ((((g.setok (dd.a) PA PB) = true) → (True ∧ ((((g.rmay PA PB) = true) → (((List.length (dd.b)) ≤ 1000000) ∧ ((((decide ((30 : Int) < ((List.length (g.rset (dd.b) PA PB)) : Int))) = true) → ([(Value.bool false)] = [(Value.bool true)])) ∧ (((decide ((30 : Int) < ((List.length (g.rset (dd.b) PA PB)) : Int))) = false) → (((List.length (dd.b)) ≤ 1000000) ∧ (tailP g xs ps I m dd (g.set (dd.a) PA PB) (g.rset (dd.b) PA PB))))))) ∧ (((g.rmay PA PB) = false) → ([(Value.bool false)] = [(Value.bool true)]))))) ∧ (((g.setok (dd.a) PA PB) = false) → (True ∧ ((((g.rmay PA PB) = true) → (((List.length (dd.b)) ≤ 1000000) ∧ ((((decide ((30 : Int) < ((List.length (g.rset (dd.b) PA PB)) : Int))) = true) → (tailP g xs ps I m dd (g.set (dd.a) PA PB) (dd.b))) ∧ (((decide ((30 : Int) < ((List.length (g.rset (dd.b) PA PB)) : Int))) = false) → ([(Value.bool false)] = [(Value.bool true)]))))) ∧ (((g.rmay PA PB) = false) → (tailP g xs ps I m dd (g.set (dd.a) PA PB) (dd.b)))))))))))))
end Go.Proofs.Ytecdmdglkkeidaa
end
section
namespace Go.Proofs.Ytecdmdglkkeidaa
open Go.RowKit Go.Abs Go
def playsI (xs : List Value) (d : PlL) : Prop := ∃ i : Nat, d.i = i ∧ i ≤ 30 ∧ i ≤ xs.length ∧ d.a = d.b ∧ RightL d.a
def playsM (d : PlL) : Nat := (30 - d.i).toNat
theorem tail_ok (xs ps : List Value) {d : PlL} {i : Nat} (hi : d.i = i) (h30 : i < 30) (hx : i < xs.length) (hd : RightL d.a) {A : List Value} (hA : RightL A) : tailP kvF xs ps (playsI xs) playsM d A A := by
  have ho := ((right_iff A).1 hA.1).2
  have hl : A.length ≤ 1000000 := by omega
  have hl' : d.a.length ≤ 1000000 := by have := ((right_iff d.a).1 hd.1).2.2; omega
  unfold tailP
  generalize kvF.key (eI xs d.i.toNat) = k
  have hb := bs_rfirst k ho.1
  have hfd := fd_eq k ho.1
  have hrr := rfirst_range A k
  have fin : (!(bsF A k == rfirstF A k)) = true → [Value.bool false] = [Value.bool true] := fun h => by rw [hb] at h; simp at h
  have next : (-9223372036854775808 ≤ d.i + 1 ∧ d.i + 1 ≤ 9223372036854775807) ∧ ∃ ee : PlL, [Filler.dl xs, Filler.dl ps, Filler.dl ee.a, Filler.dl ee.b, Filler.val (Value.int IntKind.i64 ee.i)] = [Filler.dl xs, Filler.dl ps, Filler.dl A, Filler.dl A, Filler.val (Value.int IntKind.i64 (d.i + 1))] ∧ Nat.le (Nat.succ (playsM ee)) (playsM d) ∧ playsI xs ee := by
    refine ⟨by omega, ⟨d.i + 1, A, A⟩, rfl, ?_, i + 1, by show d.i + 1 = _; omega, by omega, by omega, rfl, hA⟩
    show (30 - (d.i + 1)).toNat + 1 ≤ (30 - d.i).toNat
    omega
  have hs : kvF.same A A = true := same_self A
  have hsd : kvF.same d.a d.a = true := same_self d.a
  have hr : kvF.right A = true := hA.1
  have nos : ∀ {X : Prop}, (kvF.same A A = false → X) := fun h => by rw [hs] at h; cases h
  have nosd : ∀ {X : Prop}, (kvF.same d.a d.a = false → X) := fun h => by rw [hsd] at h; cases h
  have nor : ∀ {X : Prop}, (kvF.right A = false → X) := fun h => by rw [hr] at h; cases h
  refine ⟨hl, fun h1 => ?_, fun h1 => ?_⟩ <;> refine ⟨hl, fun h2 => ?_, fun h2 => ?_⟩
  · have h1 : fdF A k = true := h1
    have h2' : rfirstF A k < (A.length : Int) := of_decide_eq_true h2
    refine ⟨⟨hrr.1, h2'⟩, fun h3 => ?_, fun h3 => ?_⟩
    · refine ⟨hl, fun _ => ⟨hl, fun _ => ⟨⟨hrr.1, h2'⟩, fun h4 => ?_, fun _ => ⟨hl', fun _ => ⟨hl, fin, fun _ => next⟩, nosd⟩⟩, nor⟩, nos⟩
      exfalso
      have h4 : (!eqB (getF A k) (vP A (rfirstF A k).toNat)) = true := h4
      unfold getF at h4
      rw [if_pos h1, hb, eqB_iff.2 rfl] at h4
      cases h4
    · exfalso
      have h3 : eqB (kP A (rfirstF A k).toNat) k = false := h3
      rw [hfd, h3, Bool.and_false] at h1; cases h1
  · exfalso
    have h1 : fdF A k = true := h1
    have h2 : decide (rfirstF A k < (A.length : Int)) = false := h2
    rw [hfd, h2, Bool.false_and] at h1; cases h1
  · have h1 : fdF A k = false := h1
    have h2' : rfirstF A k < (A.length : Int) := of_decide_eq_true h2
    refine ⟨⟨hrr.1, h2'⟩, fun h3 => ?_, fun h3 => ?_⟩
    · exfalso
      have h2 : decide (rfirstF A k < (A.length : Int)) = true := h2
      have h3 : eqB (kP A (rfirstF A k).toNat) k = true := h3
      rw [hfd, h2, h3] at h1; cases h1
    · refine ⟨hl, fun _ => ⟨hl, fun _ => ⟨fun h4 => ?_, fun _ => ⟨hl', fun _ => ⟨hl, fin, fun _ => next⟩, nosd⟩⟩, nor⟩, nos⟩
      exfalso
      have h4 : (!eqB (getF A k) noB) = true := h4
      unfold getF at h4
      rw [if_neg (by rw [h1]; exact Bool.false_ne_true), eqB_iff.2 rfl] at h4
      cases h4
  · have h1 : fdF A k = false := h1
    refine ⟨hl, fun _ => ⟨hl, fun _ => ⟨fun h4 => ?_, fun _ => ⟨hl', fun _ => ⟨hl, fin, fun _ => next⟩, nosd⟩⟩, nor⟩, nos⟩
    exfalso
    have h4 : (!eqB (getF A k) noB) = true := h4
    unfold getF at h4
    rw [if_neg (by rw [h1]; exact Bool.false_ne_true), eqB_iff.2 rfl] at h4
    cases h4
theorem body_ok (xs ps : List Value) {d : PlL} {i : Nat} (hi : d.i = i) (h30 : i < 30) (hx : i < xs.length) (hab : d.a = d.b) (hd : RightL d.a) (k v : ByteArray) : bodyP kvF xs ps (playsI xs) playsM d k v := by
  have ho := ((right_iff d.a).1 hd.1).2
  have hl : d.a.length ≤ 1000000 := by omega
  unfold bodyP
  rw [← hab]
  have hok := setok_eq hd k v
  refine ⟨by omega, by omega, by decide, fun _ => ⟨hl, hl, ?_⟩, fun _ => ⟨hl, fun h1 => ⟨trivial, fun h2 => ⟨hl, fun h3 => ?_, fun h3 => ⟨hl, ?_⟩⟩, fun h2 => ?_⟩, fun h1 => ⟨trivial, fun h2 => ⟨hl, fun h3 => ?_, fun h3 => ?_⟩, fun h2 => ?_⟩⟩⟩
  · show tailP kvF xs ps (playsI xs) playsM d (dropF d.a (keyF (eI xs d.i.toNat))) (rdelF d.a (keyF (eI xs d.i.toNat)))
    rw [drop_rdel _ hd.2 ho.1]
    refine tail_ok xs ps hi h30 hx hd ?_
    rw [rdel_eq _ hd.2]
    exact right_filter _ hd
  · exfalso
    have h1 : setokF d.a k v = true := h1
    have h3 : decide (30 < ((rsetF d.a k v).length : Int)) = true := h3
    rw [hok, h3] at h1; simp at h1
  · obtain ⟨e1, e2⟩ := set_rset hd (k := k) (v := v) h1
    show tailP kvF xs ps (playsI xs) playsM d (setF d.a k v) (rsetF d.a k v)
    rw [e1]
    exact tail_ok xs ps hi h30 hx hd e2
  · exfalso
    have h1 : setokF d.a k v = true := h1
    have h2 : rmayF k v = false := h2
    rw [hok, h2] at h1; cases h1
  · have h1 : setokF d.a k v = false := h1
    have e : setF d.a k v = d.a := by unfold setF; rw [if_neg (by rw [h1]; exact Bool.false_ne_true)]
    show tailP kvF xs ps (playsI xs) playsM d (setF d.a k v) d.a
    rw [e]
    exact tail_ok xs ps hi h30 hx hd hd
  · exfalso
    have h1 : setokF d.a k v = false := h1
    have h2 : rmayF k v = true := h2
    have h3 : decide (30 < ((rsetF d.a k v).length : Int)) = false := h3
    rw [hok, h2, h3] at h1; cases h1
  · have h1 : setokF d.a k v = false := h1
    have e : setF d.a k v = d.a := by unfold setF; rw [if_neg (by rw [h1]; exact Bool.false_ne_true)]
    show tailP kvF xs ps (playsI xs) playsM d (setF d.a k v) d.a
    rw [e]
    exact tail_ok xs ps hi h30 hx hd hd
theorem tdiv12 {x : Int} (h : -9223372036854775808 ≤ x ∧ x ≤ 9223372036854775807) : -9223372036854775808 ≤ x.tdiv 12 ∧ x.tdiv 12 ≤ 9223372036854775807 := by
  rcases Int.le_total 0 x with h0 | h0
  · rw [Int.tdiv_eq_ediv_of_nonneg h0]; omega
  · have : x.tdiv 12 = -((-x) / 12) := by
      rw [← Int.tdiv_eq_ediv_of_nonneg (by omega : 0 ≤ -x), Int.neg_tdiv, Int.neg_neg]
    rw [this]; omega
end Go.Proofs.Ytecdmdglkkeidaa
end
section
namespace Go.Abs
open Go Go.ChangeShapes Go.WideShapes Go.ChangeAt Go.RowKit

theorem trodAll_stays {H : Type} {enc : TypeId × Value → H} {P : Program} (hl : laidOutB P = true) {W W' : World} (hb : Below W.heap.size W W') {sp : Nat → Bool} : ∀ {ts : List TypeId} {vs : List Value} {ds : List (DataW H)} {ps : List MemPlace},
    (∀ t ∈ ts, P.readableRec t = true ∧ t < P.types.size) → DataW.TrodAll enc P W 0 (fun _ => true) true ts vs ds ps → (∀ p ∈ ps, p.block < W.heap.size) → (∀ p ∈ ps, sp p.block = true) → DataW.TrodAll enc P W' 0 sp true ts vs ds ps
  | [], vs, ds, ps, _, h, _, _ => by
    obtain ⟨rfl, rfl, rfl⟩ := trodAll_nil h
    rfl
  | t :: ts, vs, ds, ps, ht, h, hlt, hs => by
    obtain ⟨v, vs', d, ds', p, q, rfl, rfl, rfl, hd, hrest⟩ := trodAll_cons h
    obtain ⟨h1, h2⟩ := ht t List.mem_cons_self
    exact ⟨p, q, WideElems.Trod_stays hl h1 h2 hd (fun x hx => hb.same (hlt x (List.mem_append_left _ hx))) (fun x hx => hs x (List.mem_append_left _ hx)),
      trodAll_stays hl hb (fun t h => ht t (List.mem_cons_of_mem _ h)) hrest (fun x hx => hlt x (List.mem_append_right _ hx)) (fun x hx => hs x (List.mem_append_right _ hx)), rfl⟩
end Go.Abs
end
section
namespace Go.Abs
open Go Go.ChangeShapes Go.WideShapes Go.RowKit

/-- A raw value of a zero's kind, in the bounds of what comes in. -/
inductive RawOk : Value → Value → Prop
  | int {k : IntKind} {n m : Int} : (Lit.int k m).wf = true → RawOk (.int k n) (.int k m)
  | str {s t : ByteArray} : t.size ≤ maxLen → RawOk (.string s) (.string t)
  | bool {a b : Bool} : RawOk (.bool a) (.bool b)
  | sl {z : Value} {xs : List Value} : xs.length ≤ maxLen → (∀ x ∈ xs, RawOk z x) → RawOk (dsl z []) (dsl z xs)
  | agg {zs us : List Value} : us.length = zs.length → (∀ (i : Nat) z u, zs[i]? = some z → us[i]? = some u → RawOk z u) → RawOk (.agg zs.toArray) (.agg us.toArray)
/-- A world's cells. -/
def zW (w : World) (c i : Nat) : Option Value :=
  match w.heap[c]? with
  | some (.cells arr _ _) => arr[i]?
  | _ => none
theorem zW_ok (w : World) : ∀ c i a, zW w c i = some a → ∃ arr e fr, w.heap[c]? = some (.cells arr e fr) ∧ arr[i]? = some a := by
  intro c i a h
  unfold zW at h
  split at h
  · rename_i arr e fr hc; exact ⟨arr, e, fr, hc, h⟩
  · cases h
theorem zW_cell {w : World} {b o : Nat} {v : Value} (h : w.cell? ⟨b, o, none⟩ = some v) : zW w b o = some v := by
  unfold World.cell? at h
  unfold zW
  split at h
  case h_2 => cases h
  rename_i arr e fr hb
  have hb : w.heap[b]? = some (.cells arr e fr) := hb
  rw [hb]
  exact h
theorem cell_spot {w : World} {a : Addr} {v : Value} (h : w.cell? a = some v) : a.spot = none := by
  unfold World.cell? at h
  split at h
  case h_2 => cases h
  split at h
  · cases h
  · rename_i hs
    have hs : ¬ a.spot.isSome = true := hs
    simpa using hs
def isScalZ : Value → Bool
  | .int .. | .string _ | .bool _ => true
  | .func (.yield 1) _ _ => true
  | _ => false
/-- A raw value that is not an aggregate. -/
theorem RawOk.norm {z u : Value} (h : RawOk z u) (hz : isScalZ z = true) : norm1 z u = u ∧ cellsN z u = [u] := by
  cases h with
  | int _ => exact ⟨rfl, rfl⟩
  | str _ => exact ⟨rfl, rfl⟩
  | bool => exact ⟨rfl, rfl⟩
  | sl _ _ =>
    rename_i z xs _ _
    have : norm1 (dsl z []) (dsl z xs) = dsl z xs := by simp [norm1, dsl, dels]
    exact ⟨this, by show [norm1 (dsl z []) (dsl z xs)] = _; rw [this]⟩
  | agg _ _ => simp [isScalZ] at hz
/-- A zero: one cell, or cells of one cell each. -/
def zCells (z : Value) : Prop := isScalZ z = true ∨ ∃ zs : List Value, z = .agg zs.toArray ∧ ∀ y ∈ zs, isScalZ y = true
theorem zCells_cells {z : Value} (h : zCells z) : ∀ y ∈ z.cells.toList, isScalZ y = true := by
  rcases h with h | ⟨zs, rfl, h⟩
  · intro y hy
    cases z with
    | agg _ => simp [isScalZ] at h
    | _ => simp [Value.cells] at hy; subst hy; exact h
  · simpa [Value.cells] using h
theorem zeroL_cells {f : TypeId → Option Value} (hf : ∀ t z, f t = some z → zCells z) : ∀ {ts : List TypeId} {l : List Value}, zeroL f ts = some l → ∀ y ∈ l, isScalZ y = true
  | [], l, h, y, hy => by simp only [zeroL, Option.some.injEq] at h; subst h; simp at hy
  | t :: r, l, h, y, hy => by
    unfold zeroL at h
    split at h
    · rename_i z l' hz hl
      simp only [Option.some.injEq] at h; subst h
      rcases List.mem_append.1 hy with hy | hy
      · exact zCells_cells (hf t z hz) y hy
      · exact zeroL_cells hf hl y hy
    · cases h
theorem zeroD_cells {P : Program} : ∀ n t z, zeroD P n t = some z → zCells z
  | 0, t, z, h => by simp [zeroD] at h
  | n + 1, t, z, h => by
    have ih := zeroD_cells (P := P) n
    unfold zeroD at h
    split at h
    · simp only [Option.some.injEq] at h; subst h; exact .inl rfl
    · simp only [Option.some.injEq] at h; subst h; exact .inl rfl
    · simp only [Option.some.injEq] at h; subst h; exact .inl rfl
    · rename_i e _
      cases he : zeroD P n e with
      | none => rw [he] at h; cases h
      | some z' =>
        rw [he] at h; simp only [Option.bind_some] at h
        split at h
        · cases h
        · simp only [Option.some.injEq] at h; subst h; exact .inl rfl
    · rename_i fs _
      cases hl : zeroL (zeroD P n) (fs.toList.map (·.type)) with
      | none => rw [hl] at h; cases h
      | some l =>
        rw [hl] at h; simp only [Option.map_some, Option.some.injEq] at h; subst h
        exact .inr ⟨l, rfl, zeroL_cells ih hl⟩
    · rename_i k e _
      cases he : zeroD P n e with
      | none => rw [he] at h; cases h
      | some z' =>
        rw [he] at h; simp only [Option.map_some, Option.some.injEq] at h; subst h
        refine .inr ⟨_, rfl, fun y hy => ?_⟩
        obtain ⟨l, hl, hy⟩ := List.mem_flatten.1 hy
        rw [List.eq_of_mem_replicate hl] at hy
        exact zCells_cells (ih e z' he) y hy
    · cases h
/-- The cells of raw values side by side. -/
theorem agg_of {zs us : List Value} (hz : ∀ y ∈ zs, isScalZ y = true) (hl : us.length = zs.length) (hu : ∀ (i : Nat) z u, zs[i]? = some z → us[i]? = some u → RawOk z u) : cellsN (.agg zs.toArray) (.agg us.toArray) = us := by
  apply List.ext_getElem?
  intro i
  show (zs.zipIdx.map fun p => norm1 p.1 (fld (.agg us.toArray) p.2))[i]? = _
  rw [List.getElem?_map, List.getElem?_zipIdx]
  cases hzi : zs[i]? with
  | none =>
    have : zs.length ≤ i := List.getElem?_eq_none_iff.1 hzi
    rw [List.getElem?_eq_none (by omega)]; rfl
  | some z =>
    have hi := (List.getElem?_eq_some_iff.1 hzi).1
    have hui : us[i]? = some us[i] := List.getElem?_eq_getElem (by omega)
    rw [hui]
    have hf : fld (.agg us.toArray) i = us[i] := by simp [fld, Value.cells, Array.getD, hl, hi]
    simp only [Option.map_some, Nat.zero_add, Option.some.injEq]
    rw [hf]
    exact ((hu i z _ hzi hui).norm (hz z (List.mem_of_getElem? hzi))).1
theorem RawOk.cells {z u : Value} (h : RawOk z u) (hz : zCells z) : (cellsN z u).length = z.cells.toList.length ∧ ∀ (i : Nat) y c, z.cells.toList[i]? = some y → (cellsN z u)[i]? = some c → RawOk y c := by
  refine ⟨by rw [cellsN_len, Array.length_toList], fun i y c hy hc => ?_⟩
  rcases hz with hz | ⟨zs, rfl, hzs⟩
  · rw [(h.norm hz).2] at hc
    have hcz : z.cells.toList = [z] := by
      cases z with
      | agg _ => simp [isScalZ] at hz
      | _ => rfl
    rw [hcz] at hy
    cases i with
    | succ i => simp at hy
    | zero =>
      simp only [List.getElem?_cons_zero, Option.some.injEq] at hy hc
      subst hy; subst hc; exact h
  · generalize hg : Value.agg zs.toArray = zz at h
    cases h with
    | int _ => cases hg
    | str _ => cases hg
    | bool => cases hg
    | sl _ _ => simp [dsl] at hg
    | agg hl hu =>
      rename_i zs' us
      simp only [Value.agg.injEq] at hg
      have : zs = zs' := by simpa using congrArg Array.toList hg
      subst this
      rw [agg_of hzs hl hu] at hc
      exact hu i y c (by simpa [Value.cells] using hy) hc

section
variable {H : Type} {enc : TypeId × Value → H} {P : Program} {w : World} {base : Nat} {spare : Nat → Bool} {held : Bool}
/-- Parts side by side. -/
theorem parts_raw {n : Nat} (ih : ∀ t z, t < P.types.size → zeroD P n t = some z → ∀ {fuel : Nat} {cs : List Value} {x : DataW H × List MemPlace}, DataW.trod enc P w base spare held fuel t cs = some x → ∃ u, RawOk z u ∧ All2 (DR (zW w)) (cellsN z u) cs) :
    ∀ {ts : List TypeId} {l cs : List Value}, zeroL (zeroD P n) ts = some l → (∀ t ∈ ts, t < P.types.size) → cs.length = (ts.map P.cellsOf).sum →
      (∀ (i : Nat) t, ts[i]? = some t → ∃ fuel x, DataW.trod enc P w base spare held fuel t ((cs.drop ((ts.take i).map P.cellsOf).sum).take (P.cellsOf t)) = some x) →
      ∃ us, us.length = l.length ∧ (∀ (i : Nat) z u, l[i]? = some z → us[i]? = some u → RawOk z u) ∧ All2 (DR (zW w)) us cs
  | [], l, cs, hl, _, hc, _ => by
    simp only [zeroL, Option.some.injEq] at hl; subst hl
    have : cs = [] := List.eq_nil_of_length_eq_zero (by simpa using hc)
    subst this
    exact ⟨[], rfl, fun i z u h => by simp at h, All2.nil⟩
  | t :: ts, l, cs, hl, ht, hc, hget => by
    unfold zeroL at hl
    split at hl
    case h_2 => cases hl
    rename_i z l' hz hl'
    simp only [Option.some.injEq] at hl; subst hl
    obtain ⟨fuel, x, h0⟩ := hget 0 t rfl
    simp only [List.take_zero, List.map_nil, List.sum_nil, List.drop_zero] at h0
    obtain ⟨u, hu, hcs⟩ := ih t z (ht t List.mem_cons_self) hz h0
    simp only [List.map_cons, List.sum_cons] at hc
    obtain ⟨us, h1, h2, h3⟩ := parts_raw ih (cs := cs.drop (P.cellsOf t)) hl' (fun y hy => ht y (List.mem_cons_of_mem _ hy)) (by rw [List.length_drop]; omega) (fun i y hy => by
      obtain ⟨fuel, x, h⟩ := hget (i + 1) y (by simpa using hy)
      refine ⟨fuel, x, ?_⟩
      rw [List.drop_drop]
      simpa using h)
    obtain ⟨h4, h5⟩ := hu.cells (zeroD_cells n t z hz)
    refine ⟨cellsN z u ++ us, by rw [List.length_append, List.length_append, h4, h1], fun i y c hy hc => ?_, ?_⟩
    · rw [List.getElem?_append] at hy hc
      rw [h4] at hc
      split at hy
      · rename_i hlt; rw [if_pos hlt] at hc; exact h5 i y c hy hc
      · rename_i hlt; rw [if_neg hlt] at hc; exact h2 _ y c hy hc
    · have := hcs.append h3
      rwa [List.take_append_drop] at this
theorem zeroL_rep {f : TypeId → Option Value} {e : TypeId} {z : Value} (h : f e = some z) : ∀ k, zeroL f (List.replicate k e) = some (List.replicate k z.cells.toList).flatten
  | 0 => rfl
  | k + 1 => by
    rw [List.replicate_succ, List.replicate_succ]
    unfold zeroL
    rw [h, zeroL_rep h k]
    rfl
theorem sum_rep (P : Program) (e : TypeId) : ∀ k, ((List.replicate k e).map P.cellsOf).sum = k * P.cellsOf e
  | 0 => by simp
  | k + 1 => by rw [List.replicate_succ, List.map_cons, List.sum_cons, sum_rep P e k, Nat.succ_mul, Nat.add_comm]

theorem trod_raw (hlaid : laidOutB P = true) : ∀ n t z, t < P.types.size → zeroD P n t = some z → ∀ {fuel : Nat} {cs : List Value} {x : DataW H × List MemPlace}, DataW.trod enc P w base spare held fuel t cs = some x → ∃ u, RawOk z u ∧ All2 (DR (zW w)) (cellsN z u) cs
  | 0, t, z, _, hz, _, _, _, _ => by simp [zeroD] at hz
  | n + 1, t, z, ht, hz, fuel, cs, x, h => by
    have ih := trod_raw hlaid (n := n)
    have aggs : ∀ {l us : List Value}, (∀ y ∈ l, isScalZ y = true) → us.length = l.length → (∀ (i : Nat) z u, l[i]? = some z → us[i]? = some u → RawOk z u) → All2 (DR (zW w)) us cs → ∃ u, RawOk (.agg l.toArray) u ∧ All2 (DR (zW w)) (cellsN (.agg l.toArray) u) cs := by
      intro l us h1 h2 h3 h4
      exact ⟨.agg us.toArray, .agg h2 h3, by rw [agg_of h1 h2 h3]; exact h4⟩
    unfold zeroD at hz
    split at hz
    · rename_i k hu
      simp only [Option.some.injEq] at hz; subst hz
      obtain ⟨m, rfl, _, hw⟩ := DataW.trod_int hu h
      exact ⟨.int k m, .int hw, All2.cons (.plain rfl) All2.nil⟩
    · rename_i hu
      simp only [Option.some.injEq] at hz; subst hz
      obtain ⟨s, rfl, _, hw⟩ := DataW.trod_string hu h
      exact ⟨.string s, .str hw, All2.cons (.plain rfl) All2.nil⟩
    · rename_i hu
      simp only [Option.some.injEq] at hz; subst hz
      obtain ⟨b, rfl, _⟩ := DataW.trod_bool hu h
      exact ⟨.bool b, .bool, All2.cons (.plain rfl) All2.nil⟩
    · rename_i e hu
      cases he : zeroD P n e with
      | none => rw [he] at hz; cases hz
      | some z' =>
        rw [he] at hz; simp only [Option.bind_some] at hz
        split at hz
        · cases hz
        rename_i hpos
        simp only [Option.some.injEq] at hz; subst hz
        have slice : ∀ {xs : List Value} {v' : Value}, xs.length ≤ maxLen → (∀ y ∈ xs, RawOk z' y) → DR (zW w) (dsl z' xs) v' → ∃ u, RawOk (dsl z' []) u ∧ All2 (DR (zW w)) (cellsN (dsl z' []) u) [v'] := by
          intro xs v' h1 h2 h3
          have h4 : RawOk (dsl z' []) (dsl z' xs) := .sl h1 h2
          exact ⟨_, h4, by rw [(h4.norm rfl).2]; exact All2.cons h3 All2.nil⟩
        rcases DataW.trod_slice hu h with ⟨rfl, _⟩ | ⟨a, len, cap, elems, rest, n', _, rfl, _, hb, hlen, hcap, hel, hget, _, _⟩
        · exact slice (xs := []) (by simp) (fun y hy => by simp at hy) .nil
        · have each : ∀ i, ∃ u, i < len → RawOk z' u ∧ ∃ cs', cs'.length = P.cellsOf e ∧ (∀ j, j < P.cellsOf e → w.cell? ((a.add (i * P.cellsOf e)).add j) = cs'[j]?) ∧ All2 (DR (zW w)) (cellsN z' u) cs' := by
            intro i
            by_cases hi : i < len
            · have hg := hget i hi
              rw [List.getElem?_eq_getElem (by omega), Option.bind_eq_some_iff] at hg
              obtain ⟨cs', hcs, htr⟩ := hg
              obtain ⟨u, hu1, hu2⟩ := ih e z' (kid_slice hlaid ht hu) he htr
              obtain ⟨_, h2, h3⟩ := World.cells?_some hcs
              exact ⟨u, fun _ => ⟨hu1, cs', h2, h3, hu2⟩⟩
            · exact ⟨.bool false, fun h => absurd h hi⟩
          obtain ⟨U, hU⟩ := Classical.axiomOfChoice each
          have hmem : ∀ y ∈ (List.range len).map U, RawOk z' y := by
            intro y hy
            obtain ⟨i, hi, rfl⟩ := List.mem_map.1 hy
            exact (hU i (List.mem_range.1 hi)).1
          refine slice (xs := (List.range len).map U) (by rw [List.length_map, List.length_range]; omega) hmem ?_
          rcases Nat.eq_zero_or_pos len with h0 | h0
          · subst h0; exact .nil
          · obtain ⟨_, cs0, hc1, hc2, hc3⟩ := hU 0 h0
            have hsz : z'.cells.size = P.cellsOf e := by rw [← hc1, ← hc3.1, cellsN_len]
            have hp : 0 < P.cellsOf e := by omega
            have hspot : a.spot = none := by
              have := hc2 0 hp
              rw [Nat.zero_mul, show (a.add 0).add 0 = a from rfl, List.getElem?_eq_getElem (by omega)] at this
              exact cell_spot this
            obtain ⟨ab, ao, asp⟩ := a
            simp only at hspot; subst hspot
            have hadd : ∀ m k, ((⟨ab, ao, none⟩ : Addr).add m).add k = ⟨ab, ao + (m + k), none⟩ := by
              intro m k
              unfold Addr.add
              split
              · split
                · simp_all
                · simp_all
              · split
                · simp_all
                · simp only [Addr.mk.injEq, and_true, true_and]; omega
            have key : ∀ p v, (flatN z' ((List.range len).map U))[p]? = some v → ∃ y, zW w ab (ao + p) = some y ∧ DR (zW w) v y := by
              intro p v hv
              have hlt := (List.getElem?_eq_some_iff.1 hv).1
              rw [flatN_len, List.length_map, List.length_range, hsz] at hlt
              have hq : p / P.cellsOf e < len := (Nat.div_lt_iff_lt_mul hp).2 hlt
              have hr := Nat.mod_lt p hp
              have hpq : p / P.cellsOf e * P.cellsOf e + p % P.cellsOf e = p := by
                have := Nat.div_add_mod p (P.cellsOf e)
                rw [Nat.mul_comm] at this; exact this
              have hfl := flatN_get (z := z') (xs := (List.range len).map U) (i := p / P.cellsOf e) (j := p % P.cellsOf e) (by simpa using hq) (by omega)
              rw [hsz, hpq, hv] at hfl
              have hgd : ((List.range len).map U).getD (p / P.cellsOf e) z' = U (p / P.cellsOf e) := by
                rw [List.getD_eq_getElem?_getD, List.getElem?_map, List.getElem?_range hq]; rfl
              rw [hgd] at hfl
              obtain ⟨_, cs', h1, h2, h3⟩ := hU _ hq
              obtain ⟨y, hy, hdr⟩ := h3.2 _ v hfl.symm
              have h4 := h2 _ hr
              rw [hy, hadd, hpq] at h4
              exact ⟨y, zW_cell h4, hdr⟩
            refine .sl (fun j => (zW w ab (ao + j)).getD (.bool false)) (by simp) hlen (fun p v hv => ?_) (fun p v hv => ?_)
            · obtain ⟨y, hy, _⟩ := key p v hv
              rw [hy]; rfl
            · obtain ⟨y, hy, hd⟩ := key p v hv
              simp only [hy, Option.getD_some]; exact hd
    · rename_i fs hu
      cases hl : zeroL (zeroD P n) (fs.toList.map (·.type)) with
      | none => rw [hl] at hz; cases hz
      | some l =>
        rw [hl] at hz; simp only [Option.map_some, Option.some.injEq] at hz; subst hz
        obtain ⟨xs, n', _, _, hlenc, hlen, hget⟩ := DataW.trod_struct hu h
        obtain ⟨k1, k2, k3⟩ := kid_struct hlaid ht hu
        obtain ⟨us, h1, h2, h3⟩ := parts_raw ih (cs := cs) hl (fun y hy => by
          obtain ⟨f, hf, rfl⟩ := List.mem_map.1 hy
          exact k1 f hf) (by rw [hlenc, k2, List.map_map]; rfl) (fun i y hy => by
          rw [List.getElem?_map] at hy
          cases hfi : fs.toList[i]? with
          | none => rw [hfi] at hy; cases hy
          | some f =>
            rw [hfi] at hy
            simp only [Option.map_some, Option.some.injEq] at hy; subst hy
            have hg := hget i f (by rw [← Array.getElem?_toList]; exact hfi)
            have hlt := (List.getElem?_eq_some_iff.1 hfi).1
            rw [List.getElem?_eq_getElem (by simpa [hlen] using hlt), k3 i f hfi] at hg
            refine ⟨n', xs[i]'(by simpa [hlen] using hlt), ?_⟩
            rw [← List.map_take, List.map_map]
            exact hg)
        exact aggs (zeroL_cells (fun t z h => zeroD_cells n t z h) hl) h1 h2 h3
    · rename_i k e hu
      cases he : zeroD P n e with
      | none => rw [he] at hz; cases hz
      | some z' =>
        rw [he] at hz; simp only [Option.map_some, Option.some.injEq] at hz; subst hz
        obtain ⟨xs, n', _, _, hlenc, hlen, hget⟩ := DataW.trod_array hu h
        obtain ⟨k1, k2⟩ := kid_array hlaid ht hu
        have hl := zeroL_rep he k
        obtain ⟨us, h1, h2, h3⟩ := parts_raw ih (cs := cs) hl (fun y hy => by rw [List.eq_of_mem_replicate hy]; exact k1) (by rw [hlenc, k2, sum_rep]) (fun i y hy => by
          rw [List.getElem?_replicate] at hy
          split at hy
          · rename_i hi
            simp only [Option.some.injEq] at hy; subst hy
            have hg := hget i hi
            rw [List.getElem?_eq_getElem (by omega)] at hg
            refine ⟨n', xs[i]'(by omega), ?_⟩
            rw [List.take_replicate, sum_rep, Nat.min_eq_left (by omega)]
            exact hg
          · cases hy)
        exact aggs (zeroL_cells (fun t z h => zeroD_cells n t z h) hl) h1 h2 h3
    · cases hz
/-- An argument of one cell. -/
theorem arg_one (hlaid : laidOutB P = true) {n : Nat} {t : TypeId} {z v : Value} {d : DataW H} {ps : List MemPlace} (ht : t < P.types.size) (hz : zeroD P n t = some z) (hs : isScalZ z = true) (hv : v.cells = #[v])
    (hd : DataW.Trod enc P w base spare held t v d ps) : ∃ u, RawOk z u ∧ DRa (zW w) u v := by
  obtain ⟨fuel, hf⟩ := hd
  obtain ⟨u, hu, hc⟩ := trod_raw hlaid n t z ht hz hf
  rw [(hu.norm hs).2, hv] at hc
  obtain ⟨v', l, e, r, _⟩ := hc.inv_cons
  simp only [List.cons.injEq] at e
  rw [← e.1] at r
  refine ⟨u, hu, .inl ⟨?_, r⟩⟩
  cases hu with
  | agg _ _ => simp [isScalZ] at hs
  | _ => rfl
theorem arg_slice (hlaid : laidOutB P = true) {n : Nat} {t e : TypeId} {z v : Value} {b0 : Nat} {r : Reach} {d : DataW H} {ps : List MemPlace} (ht : t < P.types.size) (hu : P.underlying t = some (.slice e)) (hz : zeroD P n t = some (dsl z [])) (hval : Value.okWide P w r b0 t v)
    (hd : DataW.Trod enc P w base spare held t v d ps) : ∃ xs, xs.length ≤ maxLen ∧ (∀ x ∈ xs, RawOk z x) ∧ DRa (zW w) (dsl z xs) v := by
  obtain ⟨a, len, cap, rfl⟩ := okWide_slice hu hval
  obtain ⟨u, h1, h2⟩ := arg_one hlaid ht hz rfl rfl hd
  generalize hg : dsl z [] = y at h1
  cases h1 with
  | int _ => simp [dsl] at hg
  | str _ => simp [dsl] at hg
  | bool => simp [dsl] at hg
  | agg _ _ => simp [dsl] at hg
  | sl h3 h4 =>
    simp [dsl] at hg
    subst hg
    exact ⟨_, h3, h4, h2⟩
end
/-- A LAW of immutable data. -/
theorem law_pf {P : Program} (hP : ProgOk P) {F : PF} {f : FuncId} {fn : Func} {c : Code} (hf : P.funcs[f]? = some fn) (hb : fn.body = some c) (hF : PFOk P f F) (hnf : F.fresh = false) {d : F.D} (hpre : F.pre d) (hres : F.res d = [.bool true]) {xs : List Value}
    (hraw : rawVs deep0 F.zs (F.args d) = some xs) {w : World} {args' : Array Value} (hl : All2 (DRa (zW w)) xs args'.toList) : Calls P f args' w fun en w' => RowKit.Below w.heap.size w w' ∧ en = .returned (.bool true) := by
  have hn := hP.name hf
  have henter : (callFunc f args').run P w = .ok (.enter f args') w := by simp [callFunc, hf, hn, hb]
  rcases hF.out (base := w.heap.size) (Nat.le_refl _) (zW_ok w) hpre hraw hl with ⟨v', w', h1, _⟩ | ⟨_, h2⟩
  · rw [henter] at h1; cases h1
  · refine h2.mono fun en w' ⟨v', he, z2, tk, ho⟩ => ⟨ho.below, ?_⟩
    have htk : tk = none := by
      cases e : tk with
      | none => rfl
      | some p => have := (ho.tok p e).1; rw [hnf] at this; cases this
    have hv := ho.val (μ := ⟨fun _ => none, z2⟩) (b := 0) rfl (by rw [htk])
    rw [hnf, hres] at hv
    have hv : VR _ (.bool true) v' := hv
    rw [he, hv.inv_bool]
end Go.Abs
end
section
namespace Go.Proofs.Ytecdmdglkkeidaa
open Go.RowKit Go.Abs Go
theorem cmpC_ok : ∀ args h K, cmpC cmpB args h K → CallSem Try.prog 56 args h K := by
  intro args h K e μ base w args' hl hrel hfree
  unfold cmpC at e
  split at e
  case h_2 => exact e.elim
  rename_i a b
  split at e
  case h_2 => exact e.elim
  rename_i x y hx hy
  obtain ⟨v1, l1, e1, r1, hl⟩ := hl.inv_cons
  obtain ⟨v2, l2, rfl, r2, hl⟩ := hl.inv_cons
  have := hl.inv_nil; subst this
  have r1 := r1.den; rw [hx] at r1
  have r2 := r2.den; rw [hy] at r2
  rw [r1.inv_string, r2.inv_string] at e1
  have : args' = #[.string x, .string y] := Array.toList_inj.1 e1
  subst this
  obtain ⟨v', w', μ', h1, h2⟩ := externA_run (P := Try.prog) (μ := μ) (base := base) (w := w) (fn := Try.f56) (args := [.string x, .string y]) (args' := #[.string x, .string y]) (v := goInt (Lib.compareBytes x.data.toList y.data.toList)) (h := h) (h' := h)
    rfl (All2.cons (.plain1 rfl) (All2.cons (.plain1 rfl) All2.nil)) hrel (fun h => by omega) Try.func56 rfl
  refine .inl ⟨v', w', h1, mk (.int .i64 (cmpB x y)), h, μ', e, ?_⟩
  have hv : v' = .int .i64 (cmpB x y) := h2.val.inv_int
  subst hv
  refine ⟨.zero (.mark (.plain rfl) rfl), h2.sim.rel, fun b hb => ?_, h2.sim.fr, h2.sim.own, fun i hi => ?_, Nat.le_refl _, h2.sim.le.z, h2.sim.fz⟩
  · by_cases e : μ' b = μ b
    · rw [e]; exact hfree b hb
    · have := h2.dom b e; omega
  · by_cases e : μ' i = μ i
    · exact e
    · have := h2.dom i e; omega
theorem bs_ok : PFOk Try.prog 51 (bsP std kvF) :=
  pf_ok Try.progOk (conL_ok fun x hx => by rw [List.mem_singleton.1 hx]; exact cmpC_ok) (inCallF_ok 60) (bsP std kvF) Try.func51 (show _ = some (bodyS Try.prog 51) by kernel_rfl) fun d hd => bs_run d.1 d.2.1 hd
theorem bsCon_ok : ConOk Try.prog (bsCon std kvF) := conL_ok fun x hx => by rw [List.mem_singleton.1 hx]; exact pcon_ok bs_ok
theorem may_ok : PFOk Try.prog 45 (mayP kvF) :=
  pf_ok (LS := fun _ => noL) Try.progOk (noCon_ok _) (inCallF_ok 60) (mayP kvF) Try.func45 (show _ = some (bodyS Try.prog 45) by kernel_rfl) fun d _ => may_run d.1.1 d.1.2.1
theorem same_ok : PFOk Try.prog 19 (sameP std kvF) :=
  pf_ok Try.progOk (noCon_ok _) (inCallF_ok 60) (sameP std kvF) Try.func19 (show _ = some (bodyS Try.prog 19) by kernel_rfl) fun d hd => same_run d.1 d.2.1 hd
theorem get_ok : PFOk Try.prog 26 (getP std kvF) :=
  pf_ok (LS := fun _ => noL) Try.progOk bsCon_ok (inCallF_ok 60) (getP std kvF) Try.func26 (show _ = some (bodyS Try.prog 26) by kernel_rfl) fun d hd => get_run d.1 d.2.1 hd
theorem rfirst_ok : PFOk Try.prog 35 (rfirstP std kvF) :=
  pf_ok Try.progOk (noCon_ok _) (inCallF_ok 60) (rfirstP std kvF) Try.func35 (show _ = some (bodyS Try.prog 35) by kernel_rfl) fun d hd => rfirst_run d.1 d.2.1 hd
theorem rset_ok : PFOk Try.prog 36 (rsetP std kvF) :=
  pf_ok (LS := fun _ => noL) Try.progOk (conL_ok fun x hx => by rw [List.mem_singleton.1 hx]; exact pcon_ok rfirst_ok) (inCallF_ok 60) (rsetP std kvF) Try.func36 (show _ = some (bodyS Try.prog 36) by kernel_rfl) fun d hd => rset_run d.1 d.2.1.1 d.2.1.2.1 hd
set_option maxHeartbeats 4000000 in
theorem cat_ok : PFOk Try.prog 46 (catP std kvF) :=
  pf_ok (LS := fun d => catLs d.1 (fun e => e.n = d.1.length ∧ ∃ i : Nat, e.i = i ∧ i ≤ d.1.length ∧ e.s = sumL d.1 i) (fun e => (e.n - e.i).toNat) (fun e => e.n = d.1.length ∧ ∃ i : Nat, e.i = i ∧ i ≤ d.1.length ∧ e.r = catL d.1 i) fun e => (e.n - e.i).toNat) Try.progOk (conL_ok fun x hx => by rw [List.mem_singleton.1 hx]; exact pcon_ok grow_ok) (inCallF_ok 60) (catP std kvF) Try.func46 (show _ = some (bodyS Try.prog 46) by kernel_rfl) fun d hd => cat_run d.1 (show d.1.length ≤ 3 from hd.1) (show ∀ i, i < d.1.length → (eL d.1 i).length ≤ 1000000 from hd.2)
theorem inI_std {n : Int} (h : inI std n) : -9223372036854775808 ≤ n ∧ n ≤ 9223372036854775807 := by
  obtain ⟨h1, h2⟩ := h
  have h1 : -9223372036854775808 ≤ n := h1
  have h2 : n ≤ 9223372036854775807 := h2
  exact ⟨h1, h2⟩
theorem withinCon_ok : ConOk Try.prog (withinCon std) := conL_ok fun x hx => by rw [List.mem_singleton.1 hx]; exact withinC_ok
theorem key_ok : PFOk Try.prog 25 (keyP std kvF) :=
  pf_ok (LS := fun _ => noL) Try.progOk withinCon_ok (inCallF_ok 60) (keyP std kvF) Try.func25 (show _ = some (bodyS Try.prog 25) by kernel_rfl) fun d hd => by
    obtain ⟨n, u⟩ := d
    obtain ⟨h⟩ := key_run n (inI_std hd)
    exact h
theorem txt_ok : PFOk Try.prog 33 (txtP std kvF) :=
  pf_ok (LS := fun _ => noL) Try.progOk withinCon_ok (inCallF_ok 60) (txtP std kvF) Try.func33 (show _ = some (bodyS Try.prog 33) by kernel_rfl) fun d hd => by
    obtain ⟨n, u⟩ := d
    obtain ⟨h⟩ := txt_run n (inI_std hd)
    exact h
theorem setCon_ok : ConOk Try.prog (setCon std kvF) := draw_ok (conL_ok fun x hx => by
  simp only [List.mem_cons, List.not_mem_nil, or_false] at hx
  rcases hx with rfl | rfl
  · exact pcon_ok bs_ok
  · exact pcon_ok may_ok) fun x hx => by rw [List.mem_singleton.1 hx]; exact dcon_ok rfl cat_ok
theorem set_ok : PFOk Try.prog 24 (setP std kvF) :=
  pf_ok (LS := fun _ => noL) Try.progOk setCon_ok (inCallF_ok 60) (setP std kvF) Try.func24 (show _ = some (bodyS Try.prog 24) by kernel_rfl) fun d hd => set_run d.1 d.2.1.1 d.2.1.2.1 hd
def IntsOk (xs : List Value) : Prop := ∀ i, i < xs.length → -9223372036854775808 ≤ eI xs i ∧ eI xs i ≤ 9223372036854775807
/-- KvPlays, of lists of numbers. -/
noncomputable def playsQ : PF := pf (.cons cIs (.cons cP .nil)) (fun d => IntsOk d.1) [.bool false] fun _ => [.bool true]
end Go.Proofs.Ytecdmdglkkeidaa
end
section
namespace Go.Proofs.Ytecdmdglkkeidaa
open Go.Abs Go
set_option maxRecDepth 100000 in
theorem pairs_vc (g : KvF) (xs ks : List Value) (I : PaL → Prop) (m : PaL → Nat) (J : PaM → Prop) (q : PaM → Nat) : runP std (pairsCon std g) 60 (pairsLs xs ks I m J q) (pairsP std g) 14 Try.f14 (xs, ()) =
  (∃ (d9 : PaL), (([(Filler.dl xs), (Filler.val (Value.int IntKind.i64 (d9.i))), (Filler.me (d9.es))] = [(Filler.dl xs), (Filler.val (Value.int IntKind.i64 (0 : Int))), (Filler.me [])]) ∧ ((I d9) ∧ (∀ (d10 : PaL), ((I d10) → ((((decide ((d10.i) < ((List.length xs) : Int))) = true) → ((((decide ((d10.i) < (12 : Int))) = true) → ((((0 : Int) ≤ (d10.i)) ∧ ((d10.i) < ((List.length xs) : Int))) ∧ ((((-9223372036854775808 : Int) ≤ (eI xs (Int.toNat (d10.i)))) ∧ ((eI xs (Int.toNat (d10.i))) ≤ (9223372036854775807 : Int))) ∧ ((((0 : Int) ≤ (d10.i)) ∧ ((d10.i) < ((List.length xs) : Int))) ∧ ((((0 : Int) < (12 : Int)) ∧ (((-9223372036854775808 : Int) ≤ (eI xs (Int.toNat (d10.i)))) ∧ ((eI xs (Int.toNat (d10.i))) ≤ (9223372036854775807 : Int)))) ∧ ((((-9223372036854775808 : Int) ≤ (std.quo (eI xs (Int.toNat (d10.i))) (12 : Int))) ∧ ((std.quo (eI xs (Int.toNat (d10.i))) (12 : Int)) ≤ (9223372036854775807 : Int))) ∧ ((((-9223372036854775808 : Int) ≤ ((d10.i) + (1 : Int))) ∧ (((d10.i) + (1 : Int)) ≤ (9223372036854775807 : Int))) ∧ (∃ (d14 : PaL), (([(Filler.dl xs), (Filler.val (Value.int IntKind.i64 (d14.i))), (Filler.me (d14.es))] = [(Filler.dl xs), (Filler.val (Value.int IntKind.i64 ((d10.i) + (1 : Int)))), (Filler.me (std.mput (Value.string (ByteArray.mk (Array.mk []))) (d10.es) (Value.string (g.key (eI xs (Int.toNat (d10.i))))) (Value.string (g.txt (std.quo (eI xs (Int.toNat (d10.i))) (12 : Int))))))]) ∧ ((Nat.le (Nat.succ (m d14)) (m d10)) ∧ (I d14))))))))))) ∧ (((decide ((d10.i) < (12 : Int))) = false) → (∃ (d14 : PaM), (([(Filler.dl (d14.r)), (Filler.dl ks), (Filler.val (Value.int IntKind.i64 (d14.n))), (Filler.val (Value.int IntKind.i64 (d14.i))), (Filler.me (d14.es))] = [(Filler.dl []), (Filler.dl [(Value.string (ByteArray.mk (Array.mk [(97 : UInt8)]))), (Value.string (ByteArray.mk (Array.mk [(97 : UInt8), (98 : UInt8)]))), (Value.string (ByteArray.mk (Array.mk [(97 : UInt8), (98 : UInt8), (99 : UInt8)]))), (Value.string (ByteArray.mk (Array.mk [(98 : UInt8)]))), (Value.string (ByteArray.mk (Array.mk [(98 : UInt8), (97 : UInt8)]))), (Value.string (ByteArray.mk (Array.mk [(115 : UInt8), (47 : UInt8), (97 : UInt8)]))), (Value.string (ByteArray.mk (Array.mk [(115 : UInt8), (47 : UInt8), (98 : UInt8)]))), (Value.string (ByteArray.mk (Array.mk [(115 : UInt8), (47 : UInt8), (99 : UInt8)]))), (Value.string (ByteArray.mk (Array.mk [(116 : UInt8)]))), (Value.string (ByteArray.mk (Array.mk [(117 : UInt8)]))), (Value.string (ByteArray.mk (Array.mk [(122 : UInt8)]))), (Value.string (ByteArray.mk (Array.mk [(122 : UInt8), (122 : UInt8)])))]), (Filler.val (Value.int IntKind.i64 (12 : Int))), (Filler.val (Value.int IntKind.i64 (0 : Int))), (Filler.me (d10.es))]) ∧ ((J d14) ∧ (∀ (d15 : PaM), ((J d15) → ((((decide ((d15.i) < (d15.n))) = true) → ((((0 : Int) ≤ (d15.i)) ∧ ((d15.i) < ((List.length ks) : Int))) ∧ ((((std.mhas (Value.string (ByteArray.mk (Array.mk []))) (d15.es) (Value.string (eS ks (Int.toNat (d15.i))))) = true) → ((((List.length ((d15.r) ++ [(Value.agg (Array.mk [(Value.string (eS ks (Int.toNat (d15.i)))), (Value.string (std.dstr (std.mget (Value.string (ByteArray.mk (Array.mk []))) (Value.string (ByteArray.mk (Array.mk []))) (d15.es) (Value.string (eS ks (Int.toNat (d15.i)))))))]))])) * 32) ≤ 140737488355328) ∧ ((((-9223372036854775808 : Int) ≤ ((d15.i) + (1 : Int))) ∧ (((d15.i) + (1 : Int)) ≤ (9223372036854775807 : Int))) ∧ (∃ (d19 : PaM), (([(Filler.dl (d19.r)), (Filler.dl ks), (Filler.val (Value.int IntKind.i64 (d19.n))), (Filler.val (Value.int IntKind.i64 (d19.i))), (Filler.me (d19.es))] = [(Filler.dl ((d15.r) ++ [(Value.agg (Array.mk [(Value.string (eS ks (Int.toNat (d15.i)))), (Value.string (std.dstr (std.mget (Value.string (ByteArray.mk (Array.mk []))) (Value.string (ByteArray.mk (Array.mk []))) (d15.es) (Value.string (eS ks (Int.toNat (d15.i)))))))]))])), (Filler.dl ks), (Filler.val (Value.int IntKind.i64 (d15.n))), (Filler.val (Value.int IntKind.i64 ((d15.i) + (1 : Int)))), (Filler.me (d15.es))]) ∧ ((Nat.le (Nat.succ (q d19)) (q d15)) ∧ (J d19))))))) ∧ (((std.mhas (Value.string (ByteArray.mk (Array.mk []))) (d15.es) (Value.string (eS ks (Int.toNat (d15.i))))) = false) → ((((-9223372036854775808 : Int) ≤ ((d15.i) + (1 : Int))) ∧ (((d15.i) + (1 : Int)) ≤ (9223372036854775807 : Int))) ∧ (∃ (d19 : PaM), (([(Filler.dl (d19.r)), (Filler.dl ks), (Filler.val (Value.int IntKind.i64 (d19.n))), (Filler.val (Value.int IntKind.i64 (d19.i))), (Filler.me (d19.es))] = [(Filler.dl (d15.r)), (Filler.dl ks), (Filler.val (Value.int IntKind.i64 (d15.n))), (Filler.val (Value.int IntKind.i64 ((d15.i) + (1 : Int)))), (Filler.me (d15.es))]) ∧ ((Nat.le (Nat.succ (q d19)) (q d15)) ∧ (J d19))))))))) ∧ (((decide ((d15.i) < (d15.n))) = false) → ([(dsl zP (d15.r))] = [(dsl zP (g.pairs xs))]))))))))))) ∧ (((decide ((d10.i) < ((List.length xs) : Int))) = false) → (∃ (d13 : PaM), (([(Filler.dl (d13.r)), (Filler.dl ks), (Filler.val (Value.int IntKind.i64 (d13.n))), (Filler.val (Value.int IntKind.i64 (d13.i))), (Filler.me (d13.es))] = [(Filler.dl []), (Filler.dl [(Value.string (ByteArray.mk (Array.mk [(97 : UInt8)]))), (Value.string (ByteArray.mk (Array.mk [(97 : UInt8), (98 : UInt8)]))), (Value.string (ByteArray.mk (Array.mk [(97 : UInt8), (98 : UInt8), (99 : UInt8)]))), (Value.string (ByteArray.mk (Array.mk [(98 : UInt8)]))), (Value.string (ByteArray.mk (Array.mk [(98 : UInt8), (97 : UInt8)]))), (Value.string (ByteArray.mk (Array.mk [(115 : UInt8), (47 : UInt8), (97 : UInt8)]))), (Value.string (ByteArray.mk (Array.mk [(115 : UInt8), (47 : UInt8), (98 : UInt8)]))), (Value.string (ByteArray.mk (Array.mk [(115 : UInt8), (47 : UInt8), (99 : UInt8)]))), (Value.string (ByteArray.mk (Array.mk [(116 : UInt8)]))), (Value.string (ByteArray.mk (Array.mk [(117 : UInt8)]))), (Value.string (ByteArray.mk (Array.mk [(122 : UInt8)]))), (Value.string (ByteArray.mk (Array.mk [(122 : UInt8), (122 : UInt8)])))]), (Filler.val (Value.int IntKind.i64 (12 : Int))), (Filler.val (Value.int IntKind.i64 (0 : Int))), (Filler.me (d10.es))]) ∧ ((J d13) ∧ (∀ (d14 : PaM), ((J d14) → ((((decide ((d14.i) < (d14.n))) = true) → ((((0 : Int) ≤ (d14.i)) ∧ ((d14.i) < ((List.length ks) : Int))) ∧ ((((std.mhas (Value.string (ByteArray.mk (Array.mk []))) (d14.es) (Value.string (eS ks (Int.toNat (d14.i))))) = true) → ((((List.length ((d14.r) ++ [(Value.agg (Array.mk [(Value.string (eS ks (Int.toNat (d14.i)))), (Value.string (std.dstr (std.mget (Value.string (ByteArray.mk (Array.mk []))) (Value.string (ByteArray.mk (Array.mk []))) (d14.es) (Value.string (eS ks (Int.toNat (d14.i)))))))]))])) * 32) ≤ 140737488355328) ∧ ((((-9223372036854775808 : Int) ≤ ((d14.i) + (1 : Int))) ∧ (((d14.i) + (1 : Int)) ≤ (9223372036854775807 : Int))) ∧ (∃ (d18 : PaM), (([(Filler.dl (d18.r)), (Filler.dl ks), (Filler.val (Value.int IntKind.i64 (d18.n))), (Filler.val (Value.int IntKind.i64 (d18.i))), (Filler.me (d18.es))] = [(Filler.dl ((d14.r) ++ [(Value.agg (Array.mk [(Value.string (eS ks (Int.toNat (d14.i)))), (Value.string (std.dstr (std.mget (Value.string (ByteArray.mk (Array.mk []))) (Value.string (ByteArray.mk (Array.mk []))) (d14.es) (Value.string (eS ks (Int.toNat (d14.i)))))))]))])), (Filler.dl ks), (Filler.val (Value.int IntKind.i64 (d14.n))), (Filler.val (Value.int IntKind.i64 ((d14.i) + (1 : Int)))), (Filler.me (d14.es))]) ∧ ((Nat.le (Nat.succ (q d18)) (q d14)) ∧ (J d18))))))) ∧ (((std.mhas (Value.string (ByteArray.mk (Array.mk []))) (d14.es) (Value.string (eS ks (Int.toNat (d14.i))))) = false) → ((((-9223372036854775808 : Int) ≤ ((d14.i) + (1 : Int))) ∧ (((d14.i) + (1 : Int)) ≤ (9223372036854775807 : Int))) ∧ (∃ (d18 : PaM), (([(Filler.dl (d18.r)), (Filler.dl ks), (Filler.val (Value.int IntKind.i64 (d18.n))), (Filler.val (Value.int IntKind.i64 (d18.i))), (Filler.me (d18.es))] = [(Filler.dl (d14.r)), (Filler.dl ks), (Filler.val (Value.int IntKind.i64 (d14.n))), (Filler.val (Value.int IntKind.i64 ((d14.i) + (1 : Int)))), (Filler.me (d14.es))]) ∧ ((Nat.le (Nat.succ (q d18)) (q d14)) ∧ (J d18))))))))) ∧ (((decide ((d14.i) < (d14.n))) = false) → ([(dsl zP (d14.r))] = [(dsl zP (g.pairs xs))]))))))))))))))) := by kernel_rfl
end Go.Proofs.Ytecdmdglkkeidaa
end
section
namespace Go.Proofs.Ytecdmdglkkeidaa
open Go.RowKit Go.Abs Go
theorem esF_zero (xs : List Value) : esF xs 0 = [] := rfl
theorem esF_next (xs : List Value) (i : Nat) : esF xs (i + 1) = mput zS (esF xs i) (.string (keyF (eI xs i))) (.string (txtF (Int.tdiv (eI xs i) 12))) := rfl
theorem outL_len (es : List (Value × Value)) : ∀ i, (outL es i).length ≤ i
  | 0 => Nat.le_refl _
  | i + 1 => by
    have := outL_len es i
    unfold outL
    split
    · simp; omega
    · omega
def pairI (xs : List Value) (d : PaL) : Prop := ∃ i : Nat, d.i = i ∧ i ≤ xs.length ∧ i ≤ 12 ∧ d.es = esF xs i
def pairJ (xs : List Value) (d : PaM) : Prop := d.n = 12 ∧ d.es = esF xs (min xs.length 12) ∧ ∃ i : Nat, d.i = i ∧ i ≤ 12 ∧ d.r = outL d.es i
theorem keysV_len : keysV.length = 12 := rfl
theorem tdiv_small {n : Int} (h : -9223372036854775808 ≤ n ∧ n ≤ 9223372036854775807) : -9223372036854775808 ≤ Int.tdiv n 12 ∧ Int.tdiv n 12 ≤ 9223372036854775807 := by
  have h1 : (Int.tdiv n 12).natAbs = n.natAbs / 12 := Int.natAbs_tdiv n 12
  omega
theorem pairs2 (xs : List Value) {es : List (Value × Value)} (he : es = esF xs (min xs.length 12)) : (∃ (d14 : PaM), (([(Filler.dl (d14.r)), (Filler.dl keysV), (Filler.val (Value.int IntKind.i64 (d14.n))), (Filler.val (Value.int IntKind.i64 (d14.i))), (Filler.me (d14.es))] = [(Filler.dl []), (Filler.dl [(Value.string (ByteArray.mk (Array.mk [(97 : UInt8)]))), (Value.string (ByteArray.mk (Array.mk [(97 : UInt8), (98 : UInt8)]))), (Value.string (ByteArray.mk (Array.mk [(97 : UInt8), (98 : UInt8), (99 : UInt8)]))), (Value.string (ByteArray.mk (Array.mk [(98 : UInt8)]))), (Value.string (ByteArray.mk (Array.mk [(98 : UInt8), (97 : UInt8)]))), (Value.string (ByteArray.mk (Array.mk [(115 : UInt8), (47 : UInt8), (97 : UInt8)]))), (Value.string (ByteArray.mk (Array.mk [(115 : UInt8), (47 : UInt8), (98 : UInt8)]))), (Value.string (ByteArray.mk (Array.mk [(115 : UInt8), (47 : UInt8), (99 : UInt8)]))), (Value.string (ByteArray.mk (Array.mk [(116 : UInt8)]))), (Value.string (ByteArray.mk (Array.mk [(117 : UInt8)]))), (Value.string (ByteArray.mk (Array.mk [(122 : UInt8)]))), (Value.string (ByteArray.mk (Array.mk [(122 : UInt8), (122 : UInt8)])))]), (Filler.val (Value.int IntKind.i64 (12 : Int))), (Filler.val (Value.int IntKind.i64 (0 : Int))), (Filler.me es)]) ∧ ((pairJ xs d14) ∧ (∀ (d15 : PaM), ((pairJ xs d15) → ((((decide ((d15.i) < (d15.n))) = true) → ((((0 : Int) ≤ (d15.i)) ∧ ((d15.i) < ((List.length keysV) : Int))) ∧ ((((std.mhas (Value.string (ByteArray.mk (Array.mk []))) (d15.es) (Value.string (eS keysV (Int.toNat (d15.i))))) = true) → ((((List.length ((d15.r) ++ [(Value.agg (Array.mk [(Value.string (eS keysV (Int.toNat (d15.i)))), (Value.string (std.dstr (std.mget (Value.string (ByteArray.mk (Array.mk []))) (Value.string (ByteArray.mk (Array.mk []))) (d15.es) (Value.string (eS keysV (Int.toNat (d15.i)))))))]))])) * 32) ≤ 140737488355328) ∧ ((((-9223372036854775808 : Int) ≤ ((d15.i) + (1 : Int))) ∧ (((d15.i) + (1 : Int)) ≤ (9223372036854775807 : Int))) ∧ (∃ (d19 : PaM), (([(Filler.dl (d19.r)), (Filler.dl keysV), (Filler.val (Value.int IntKind.i64 (d19.n))), (Filler.val (Value.int IntKind.i64 (d19.i))), (Filler.me (d19.es))] = [(Filler.dl ((d15.r) ++ [(Value.agg (Array.mk [(Value.string (eS keysV (Int.toNat (d15.i)))), (Value.string (std.dstr (std.mget (Value.string (ByteArray.mk (Array.mk []))) (Value.string (ByteArray.mk (Array.mk []))) (d15.es) (Value.string (eS keysV (Int.toNat (d15.i)))))))]))])), (Filler.dl keysV), (Filler.val (Value.int IntKind.i64 (d15.n))), (Filler.val (Value.int IntKind.i64 ((d15.i) + (1 : Int)))), (Filler.me (d15.es))]) ∧ ((Nat.le (Nat.succ ((fun d : PaM => (d.n - d.i).toNat) d19)) ((fun d : PaM => (d.n - d.i).toNat) d15)) ∧ (pairJ xs d19))))))) ∧ (((std.mhas (Value.string (ByteArray.mk (Array.mk []))) (d15.es) (Value.string (eS keysV (Int.toNat (d15.i))))) = false) → ((((-9223372036854775808 : Int) ≤ ((d15.i) + (1 : Int))) ∧ (((d15.i) + (1 : Int)) ≤ (9223372036854775807 : Int))) ∧ (∃ (d19 : PaM), (([(Filler.dl (d19.r)), (Filler.dl keysV), (Filler.val (Value.int IntKind.i64 (d19.n))), (Filler.val (Value.int IntKind.i64 (d19.i))), (Filler.me (d19.es))] = [(Filler.dl (d15.r)), (Filler.dl keysV), (Filler.val (Value.int IntKind.i64 (d15.n))), (Filler.val (Value.int IntKind.i64 ((d15.i) + (1 : Int)))), (Filler.me (d15.es))]) ∧ ((Nat.le (Nat.succ ((fun d : PaM => (d.n - d.i).toNat) d19)) ((fun d : PaM => (d.n - d.i).toNat) d15)) ∧ (pairJ xs d19))))))))) ∧ (((decide ((d15.i) < (d15.n))) = false) → ([(dsl zP (d15.r))] = [(dsl zP (kvF.pairs xs))])))))))) := by
  refine ⟨⟨[], 12, 0, es⟩, rfl, ⟨rfl, he, 0, rfl, Nat.zero_le _, rfl⟩, fun d ⟨hn, hes, i, hi, hle, hr⟩ => ⟨fun h => ?_, fun h => ?_⟩⟩
  · have h := of_decide_eq_true h
    have hlt : i < 12 := by omega
    have hlen := outL_len d.es i
    have ho : outL d.es (i + 1) = if mhas zS d.es (.string (eS keysV i)) then outL d.es i ++ [prV (eS keysV i) (dstr (mget zS zS d.es (.string (eS keysV i))))] else outL d.es i := rfl
    rw [hi, Int.toNat_natCast]
    refine ⟨⟨by omega, by rw [keysV_len]; omega⟩, fun e => ⟨?_, by omega, ⟨d.r ++ [prV (eS keysV i) (dstr (mget zS zS d.es (.string (eS keysV i))))], d.n, (i : Int) + 1, d.es⟩, rfl, ?_, hn, hes, i + 1, rfl, hlt, ?_⟩, fun e => ⟨by omega, ⟨d.r, d.n, (i : Int) + 1, d.es⟩, rfl, ?_, hn, hes, i + 1, rfl, hlt, ?_⟩⟩
    · rw [hr, List.length_append]; show ((outL d.es i).length + 1) * 32 ≤ _; omega
    · show (d.n - ((i : Int) + 1)).toNat + 1 ≤ (d.n - d.i).toNat; omega
    · show d.r ++ _ = outL d.es (i + 1)
      rw [ho, if_pos (show mhas zS d.es (.string (eS keysV i)) = true from e), hr]
    · show (d.n - ((i : Int) + 1)).toNat + 1 ≤ (d.n - d.i).toNat; omega
    · show d.r = outL d.es (i + 1)
      rw [ho, if_neg (by rw [show mhas zS d.es (.string (eS keysV i)) = false from e]; exact Bool.false_ne_true), hr]
  · have h := of_decide_eq_false h
    show [dsl zP d.r] = [dsl zP (pairsF xs)]
    rw [hr, hes, show i = 12 by omega]; rfl
theorem pairs_run (xs : List Value) (hx : IntsOk xs) : Holds (runP std (pairsCon std kvF) 60 (pairsLs xs keysV (pairI xs) (fun d => ((xs.length : Int) - d.i).toNat) (pairJ xs) fun d => (d.n - d.i).toNat) (pairsP std kvF) 14 Try.f14 (xs, ())) := by
  constructor
  rw [pairs_vc]
  refine ⟨⟨0, []⟩, rfl, ⟨0, rfl, Nat.zero_le _, Nat.zero_le _, rfl⟩, fun d ⟨i, hi, hle, h12, hes⟩ => ⟨fun h => ⟨fun h1 => ?_, fun h1 => ?_⟩, fun h => ?_⟩⟩
  · have h := of_decide_eq_true h
    have h1 := of_decide_eq_true h1
    have hlt : i < xs.length := by omega
    have hv := hx i hlt
    have hq := tdiv_small hv
    rw [hi, Int.toNat_natCast]
    refine ⟨by omega, hv, by omega, ⟨by omega, hv⟩, hq, by omega, ⟨(i : Int) + 1, esF xs (i + 1)⟩, ?_, ?_, i + 1, rfl, hlt, by omega, rfl⟩
    · rw [esF_next, ← hes]; rfl
    · show ((xs.length : Int) - ((i : Int) + 1)).toNat + 1 ≤ ((xs.length : Int) - (i : Int)).toNat; omega
  · have h := of_decide_eq_true h
    have h1 := of_decide_eq_false h1
    exact pairs2 xs (by rw [hes]; congr 1; omega)
  · have h := of_decide_eq_false h
    exact pairs2 xs (by rw [hes]; congr 1; omega)
theorem pairsCon_ok : ConOk Try.prog (pairsCon std kvF) := draw_ok (noCon_ok _) fun x hx => by
  simp only [List.mem_cons, List.not_mem_nil, or_false] at hx
  rcases hx with rfl | rfl
  · exact dcon_ok rfl key_ok
  · exact dcon_ok rfl txt_ok
theorem pairs_ok : PFOk Try.prog 14 (pairsP std kvF) :=
  pf_ok (LS := fun d => pairsLs d.1 keysV (pairI d.1) (fun e => ((d.1.length : Int) - e.i).toNat) (pairJ d.1) fun e => (e.n - e.i).toNat) Try.progOk pairsCon_ok (inCallF_ok 60) (pairsP std kvF) Try.func14 (show _ = some (bodyS Try.prog 14) by kernel_rfl) fun d hd => by
    obtain ⟨h⟩ := pairs_run d.1 hd
    exact h
/-- Values are among the texts. -/
theorem txt_small (n : Int) : lenB (txtF n) ≤ 8 := by
  have : ∀ k, k < 5 → lenB (eS txtsV k) ≤ 8 := by decide +kernel
  exact this _ (by omega)
def ValsOk (es : List (Value × Value)) : Prop := ∀ e ∈ es, ∃ s, e.2 = .string s ∧ lenB s ≤ 8
theorem mput_vals {kz k : Value} {s : ByteArray} (hs : lenB s ≤ 8) : ∀ {es : List (Value × Value)}, ValsOk es → ValsOk (mput kz es k (.string s))
  | [], _, e, he => by rw [List.mem_singleton.1 he]; exact ⟨s, rfl, hs⟩
  | e0 :: es, h, e, he => by
    unfold mput at he
    split at he
    · rcases List.mem_cons.1 he with rfl | he
      · exact ⟨s, rfl, hs⟩
      · exact h e (List.mem_cons_of_mem _ he)
    · rcases List.mem_cons.1 he with rfl | he
      · exact h _ (List.mem_cons_self ..)
      · exact mput_vals hs (fun e he => h e (List.mem_cons_of_mem _ he)) e he
theorem es_vals (xs : List Value) : ∀ n, ValsOk (esF xs n)
  | 0, e, he => by cases he
  | n + 1, e, he => mput_vals (txt_small _) (es_vals xs n) e he
theorem mget_small {kz k : Value} : ∀ {es : List (Value × Value)}, ValsOk es → lenB (dstr (mget kz zS es k)) ≤ 8
  | [], _ => by show 0 ≤ 8; omega
  | e0 :: es, h => by
    by_cases c : keyB kz e0.1 k = true
    · obtain ⟨s, h1, h2⟩ := h e0 (List.mem_cons_self ..)
      have : mget kz zS (e0 :: es) k = e0.2 := by unfold mget mfind; rw [if_pos c]; rfl
      rw [this, h1]; exact h2
    · have : mget kz zS (e0 :: es) k = mget kz zS es k := by unfold mget; rw [show mfind kz (e0 :: es) k = mfind kz es k by rw [mfind, if_neg c]]
      rw [this]
      exact mget_small fun e he => h e (List.mem_cons_of_mem _ he)
theorem out_mem {es : List (Value × Value)} (h : ValsOk es) : ∀ {i : Nat} {x : Value}, x ∈ outL es i → ∃ j s, j < i ∧ x = prV (eS keysV j) s ∧ lenB s ≤ 8
  | 0, x, hx => by cases hx
  | i + 1, x, hx => by
    unfold outL at hx
    split at hx
    · rcases List.mem_append.1 hx with hx | hx
      · obtain ⟨j, s, h1, h2⟩ := out_mem h hx
        exact ⟨j, s, by omega, h2⟩
      · exact ⟨i, _, by omega, List.mem_singleton.1 hx, mget_small h⟩
    · obtain ⟨j, s, h1, h2⟩ := out_mem h hx
      exact ⟨j, s, by omega, h2⟩
theorem keys_rise : ∀ j, j < 12 → ∀ i, i < j → ltB (eS keysV i) (eS keysV j) = true := by decide +kernel
theorem keys_small : ∀ j, j < 12 → eqB (eS keysV j) noB = false ∧ lenB (eS keysV j) ≤ 16 := by decide +kernel
theorem out_ord {es : List (Value × Value)} (h : ValsOk es) : ∀ {i : Nat}, i ≤ 12 → Ord (outL es i)
  | 0, _ => List.Pairwise.nil
  | i + 1, hi => by
    have ih := out_ord h (i := i) (by omega)
    unfold outL
    split
    · refine List.pairwise_append.2 ⟨ih, List.pairwise_singleton _ _, fun a ha b hb => ?_⟩
      obtain ⟨j, s, h1, rfl, h3⟩ := out_mem h ha
      rw [List.mem_singleton.1 hb]
      exact keys_rise i (by omega) j h1
    · exact ih
theorem pairs_right (xs : List Value) : RightL (pairsF xs) := by
  have hv := es_vals xs (min xs.length 12)
  have hm := fun {x} => out_mem hv (i := 12) (x := x)
  refine ⟨(right_iff _).2 ⟨fun x hx => ?_, out_ord hv (Nat.le_refl _), ?_⟩, fun x hx => ?_⟩
  · obtain ⟨j, s, h1, rfl, h3⟩ := hm hx
    have := keys_small j h1
    show mayF (eS keysV j) s = true
    unfold mayF
    rw [this.1, decide_eq_true (by omega), decide_eq_true (by omega)]; rfl
  · have := outL_len (esF xs (min xs.length 12)) 12
    show (outL _ 12).length ≤ 30
    omega
  · obtain ⟨j, s, h1, rfl, h3⟩ := hm hx
    rfl
end Go.Proofs.Ytecdmdglkkeidaa
end
section
namespace Go.Proofs.Ytecdmdglkkeidaa
open Go.RowKit Go.Abs Go
theorem bs_idx {l : List Value} (ho : Ord l) (k : ByteArray) : ∃ r : Nat, bsF l k = r ∧ r ≤ l.length ∧ (∀ i, i < r → ltB (kP l i) k = true) ∧ ∀ i, r ≤ i → i < l.length → ltB (kP l i) k = false := by
  have hr := bsF_range l k
  have hb := bs_rfirst k ho
  obtain ⟨h1, h2, h3, h4⟩ := firstN_ok (fun i => ltB (kP l i) k) l.length 0
  generalize hR : firstN (fun i => ltB (kP l i) k) l.length 0 = r at h1 h2 h3 h4
  have he : bsF l k = r := by rw [hb]; unfold rfirstF; rw [hR]
  refine ⟨r, he, by omega, fun i hi => h3 i (Nat.zero_le _) hi, fun i h5 h6 => ?_⟩
  cases hc : ltB (kP l i) k with
  | false => rfl
  | true =>
    have h7 := h4 (by omega)
    rcases Nat.lt_or_ge r i with h | h
    · rw [mono_of k ho r i h h6 hc] at h7; cases h7
    · rw [show i = r by omega] at hc; rw [hc] at h7; cases h7
theorem filter_idx {l : List Value} {p : Value → Bool} {i0 i1 : Nat} (h0 : i0 ≤ i1) (h1 : i1 ≤ l.length) (hp : ∀ i (h : i < l.length), p l[i] = decide (i0 ≤ i ∧ i < i1)) : l.filter p = (l.drop i0).take (i1 - i0) := by
  have hs : l = l.take i0 ++ ((l.drop i0).take (i1 - i0) ++ l.drop i1) := by
    conv => lhs; rw [← List.take_append_drop i0 l]
    congr 1
    conv => lhs; rw [← List.take_append_drop (i1 - i0) (l.drop i0)]
    rw [List.drop_drop, show i0 + (i1 - i0) = i1 by omega]
  conv => lhs; rw [hs]
  rw [List.filter_append, List.filter_append]
  have e1 : (l.take i0).filter p = [] := List.filter_eq_nil_iff.2 fun x hx => by
    obtain ⟨i, hi, rfl⟩ := List.getElem_of_mem hx
    rw [List.length_take] at hi
    rw [List.getElem_take, hp i (by omega), decide_eq_false (by omega)]; exact Bool.false_ne_true
  have e2 : ((l.drop i0).take (i1 - i0)).filter p = (l.drop i0).take (i1 - i0) := List.filter_eq_self.2 fun x hx => by
    obtain ⟨i, hi, rfl⟩ := List.getElem_of_mem hx
    rw [List.length_take, List.length_drop] at hi
    rw [List.getElem_take, List.getElem_drop, hp _ (by omega)]
    exact decide_eq_true (by omega)
  have e3 : (l.drop i1).filter p = [] := List.filter_eq_nil_iff.2 fun x hx => by
    obtain ⟨i, hi, rfl⟩ := List.getElem_of_mem hx
    rw [List.length_drop] at hi
    rw [List.getElem_drop, hp _ (by omega), decide_eq_false (by omega)]; exact Bool.false_ne_true
  rw [e1, e2, e3]; simp
def inRange (a b : ByteArray) (x : Value) : Bool := !ltB (keyV x) a && ltB (keyV x) b
theorem rng_filter {l : List Value} (ho : Ord l) (a b : ByteArray) : rngF l a b = l.filter (inRange a b) := by
  obtain ⟨ia, ha, hla, a1, a2⟩ := bs_idx ho a
  obtain ⟨ib, hb, hlb, b1, b2⟩ := bs_idx ho b
  unfold rngF
  rw [ha, hb, filter_idx (i0 := ia) (i1 := max ia ib) (by omega) (by omega) fun i hi => ?_]
  · rw [Int.toNat_natCast, show (max (ia : Int) (ib : Int)).toNat = max ia ib by omega]
  · unfold inRange
    rw [← kP_get hi]
    by_cases h1 : i < ia
    · rw [a1 i h1, decide_eq_false (by omega)]; rfl
    · rw [a2 i (by omega) hi]
      by_cases h2 : i < ib
      · rw [b1 i h2, decide_eq_true (by omega)]; rfl
      · rw [b2 i (by omega) hi, decide_eq_false (by omega)]; rfl
theorem bs_mono {l : List Value} (ho : Ord l) {a b : ByteArray} (h : (ltB a b || eqB a b) = true) : bsF l a ≤ bsF l b := by
  obtain ⟨ia, ha, hla, a1, a2⟩ := bs_idx ho a
  obtain ⟨ib, hb, hlb, b1, b2⟩ := bs_idx ho b
  rw [ha, hb]
  rcases Nat.lt_or_ge ib ia with hlt | hge
  · exfalso
    have h1 := a1 ib hlt
    have h2 := b2 ib (Nat.le_refl _) (by omega)
    rw [Bool.or_eq_true] at h
    rcases h with h | h
    · rw [lt_trans h1 h] at h2; cases h2
    · rw [← eqB_iff.1 h, h1] at h2; cases h2
  · omega
theorem rng_join {l : List Value} (ho : Ord l) {a b c : ByteArray} (h1 : (ltB a b || eqB a b) = true) (h2 : (ltB b c || eqB b c) = true) : rngF l a b ++ rngF l b c = rngF l a c := by
  have m1 := bs_mono ho h1
  have m2 := bs_mono ho h2
  have r1 := bsF_range l a
  unfold rngF
  rw [show max (bsF l a) (bsF l b) = bsF l b by omega, show max (bsF l b) (bsF l c) = bsF l c by omega, show max (bsF l a) (bsF l c) = bsF l c by omega]
  have e : l.drop (bsF l b).toNat = (l.drop (bsF l a).toNat).drop ((bsF l b).toNat - (bsF l a).toNat) := by
    rw [List.drop_drop]; congr 1; omega
  rw [e, ← List.take_add]
  congr 1; omega
theorem rng_len {l : List Value} (hl : l.length ≤ 1000000) (a b : ByteArray) : (rngF l a b).length ≤ l.length := by
  unfold rngF
  rw [List.length_take, List.length_drop]; omega
/-- The next of a range. -/
theorem filter_next {l : List Value} {p : Value → Bool} {i : Nat} (hi : i < l.length) (hp : p l[i] = true) : ((l.take i).filter p).length < (l.filter p).length ∧ kP (l.filter p) ((l.take i).filter p).length = kP l i ∧ vP (l.filter p) ((l.take i).filter p).length = vP l i ∧ ((l.take (i + 1)).filter p).length = ((l.take i).filter p).length + 1 := by
  have hs : l.filter p = (l.take i).filter p ++ (l[i] :: (l.drop (i + 1)).filter p) := by
    conv => lhs; rw [← List.take_append_drop i l, List.drop_eq_getElem_cons hi]
    rw [List.filter_append, List.filter_cons, if_pos hp]
  have hlt : ((l.take i).filter p).length < (l.filter p).length := by rw [hs]; simp
  have hg : (l.filter p)[((l.take i).filter p).length]'hlt = l[i] := by
    have : (l.filter p)[((l.take i).filter p).length]? = some l[i] := by rw [hs, List.getElem?_append_right (Nat.le_refl _)]; simp
    rw [List.getElem?_eq_getElem hlt] at this
    exact Option.some.inj this
  refine ⟨hlt, by rw [kP_get hlt, kP_get hi, hg], by rw [vP_get hlt, vP_get hi, hg], ?_⟩
  rw [List.take_add_one, List.getElem?_eq_getElem hi, Option.toList_some, List.filter_append, List.length_append]
  simp [List.filter, hp]
theorem filter_skip {l : List Value} {p : Value → Bool} {i : Nat} (hi : i < l.length) (hp : p l[i] = false) : ((l.take (i + 1)).filter p).length = ((l.take i).filter p).length := by
  rw [List.take_add_one, List.getElem?_eq_getElem hi, Option.toList_some, List.filter_append, List.length_append]
  simp [List.filter, hp]
end Go.Proofs.Ytecdmdglkkeidaa
end
section
namespace Go.Proofs.Ytecdmdglkkeidaa
open Go.Abs Go
set_option maxRecDepth 100000 in
theorem within_vc (g : KvF) (n lo hi : Int) : runP std noCon 40 noL (withinP std g) 15 Try.f15 (n, lo, hi, ()) =
  ((((-9223372036854775808 : Int) ≤ (hi - lo)) ∧ ((hi - lo) ≤ (9223372036854775807 : Int))) ∧ ((((-9223372036854775808 : Int) ≤ ((hi - lo) + (1 : Int))) ∧ (((hi - lo) + (1 : Int)) ≤ (9223372036854775807 : Int))) ∧ (((0 : Int) < ((hi - lo) + (1 : Int))) ∧ ((((decide ((std.rem n ((hi - lo) + (1 : Int))) < (0 : Int))) = true) → ((((-9223372036854775808 : Int) ≤ ((std.rem n ((hi - lo) + (1 : Int))) + hi)) ∧ (((std.rem n ((hi - lo) + (1 : Int))) + hi) ≤ (9223372036854775807 : Int))) ∧ ((((-9223372036854775808 : Int) ≤ (((std.rem n ((hi - lo) + (1 : Int))) + hi) - lo)) ∧ ((((std.rem n ((hi - lo) + (1 : Int))) + hi) - lo) ≤ (9223372036854775807 : Int))) ∧ ((((-9223372036854775808 : Int) ≤ ((((std.rem n ((hi - lo) + (1 : Int))) + hi) - lo) + (1 : Int))) ∧ (((((std.rem n ((hi - lo) + (1 : Int))) + hi) - lo) + (1 : Int)) ≤ (9223372036854775807 : Int))) ∧ ((((-9223372036854775808 : Int) ≤ (lo + ((((std.rem n ((hi - lo) + (1 : Int))) + hi) - lo) + (1 : Int)))) ∧ ((lo + ((((std.rem n ((hi - lo) + (1 : Int))) + hi) - lo) + (1 : Int))) ≤ (9223372036854775807 : Int))) ∧ ([(Value.int IntKind.i64 (lo + ((((std.rem n ((hi - lo) + (1 : Int))) + hi) - lo) + (1 : Int))))] = [(Value.int IntKind.i64 (g.wi n lo hi))])))))) ∧ (((decide ((std.rem n ((hi - lo) + (1 : Int))) < (0 : Int))) = false) → ((((-9223372036854775808 : Int) ≤ (lo + (std.rem n ((hi - lo) + (1 : Int))))) ∧ ((lo + (std.rem n ((hi - lo) + (1 : Int)))) ≤ (9223372036854775807 : Int))) ∧ ([(Value.int IntKind.i64 (lo + (std.rem n ((hi - lo) + (1 : Int)))))] = [(Value.int IntKind.i64 (g.wi n lo hi))]))))))) := by kernel_rfl
def order_vc_L1 (g : KvF) (xs : List Value) (n : Int) (G : OrC → Prop) (w : OrC → Nat) (d17 : OrB) : Prop :=
  (∃ (d21 : OrC), (([(Filler.val (Value.int IntKind.i64 n)), (Filler.dl (g.pairs xs)), (Filler.dl (d21.x)), (Filler.dl (d21.y)), (Filler.dl (d21.f)), (Filler.val (Value.int IntKind.i64 (d21.i)))] = [(Filler.val (Value.int IntKind.i64 n)), (Filler.dl (g.pairs xs)), (Filler.dl (d17.x)), (Filler.dl (g.set (d17.x) (ByteArray.mk (Array.mk [(109 : UInt8)])) (ByteArray.mk (Array.mk [])))), (Filler.dl []), (Filler.val (Value.int IntKind.i64 (0 : Int)))]) ∧ ((G d21) ∧ (∀ (d22 : OrC), ((G d22) → ((((decide ((d22.i) < (32 : Int))) = true) → ((((0 : Int) < (26 : Int)) ∧ (((-9223372036854775808 : Int) ≤ (d22.i)) ∧ ((d22.i) ≤ (9223372036854775807 : Int)))) ∧ ((((-9223372036854775808 : Int) ≤ ((97 : Int) + (std.quo (d22.i) (26 : Int)))) ∧ (((97 : Int) + (std.quo (d22.i) (26 : Int))) ≤ (9223372036854775807 : Int))) ∧ (((0 : Int) < (26 : Int)) ∧ ((((-9223372036854775808 : Int) ≤ ((97 : Int) + (std.rem (d22.i) (26 : Int)))) ∧ (((97 : Int) + (std.rem (d22.i) (26 : Int))) ≤ (9223372036854775807 : Int))) ∧ ((((std.slen (ByteArray.mk (Array.mk [(107 : UInt8)]))) + (std.slen (std.sof (std.ints [(Value.int IntKind.u8 (std.wrap IntKind.u8 ((97 : Int) + (std.quo (d22.i) (26 : Int))))), (Value.int IntKind.u8 (std.wrap IntKind.u8 ((97 : Int) + (std.rem (d22.i) (26 : Int)))))])))) ≤ 9223372036854775807) ∧ (((List.length (d22.f)) ≤ 1000000) ∧ ((((g.setok (d22.f) ((ByteArray.mk (Array.mk [(107 : UInt8)])) ++ (std.sof (std.ints [(Value.int IntKind.u8 (std.wrap IntKind.u8 ((97 : Int) + (std.quo (d22.i) (26 : Int))))), (Value.int IntKind.u8 (std.wrap IntKind.u8 ((97 : Int) + (std.rem (d22.i) (26 : Int)))))]))) (ByteArray.mk (Array.mk []))) = true) → ((((decide ((d22.i) < (30 : Int))) = true) → ((((-9223372036854775808 : Int) ≤ ((d22.i) + (1 : Int))) ∧ (((d22.i) + (1 : Int)) ≤ (9223372036854775807 : Int))) ∧ (∃ (d27 : OrC), (([(Filler.val (Value.int IntKind.i64 n)), (Filler.dl (g.pairs xs)), (Filler.dl (d27.x)), (Filler.dl (d27.y)), (Filler.dl (d27.f)), (Filler.val (Value.int IntKind.i64 (d27.i)))] = [(Filler.val (Value.int IntKind.i64 n)), (Filler.dl (g.pairs xs)), (Filler.dl (d22.x)), (Filler.dl (d22.y)), (Filler.dl (g.set (d22.f) ((ByteArray.mk (Array.mk [(107 : UInt8)])) ++ (std.sof (std.ints [(Value.int IntKind.u8 (std.wrap IntKind.u8 ((97 : Int) + (std.quo (d22.i) (26 : Int))))), (Value.int IntKind.u8 (std.wrap IntKind.u8 ((97 : Int) + (std.rem (d22.i) (26 : Int)))))]))) (ByteArray.mk (Array.mk [])))), (Filler.val (Value.int IntKind.i64 ((d22.i) + (1 : Int))))]) ∧ ((Nat.le (Nat.succ (w d27)) (w d22)) ∧ (G d27)))))) ∧ (((decide ((d22.i) < (30 : Int))) = false) → ([(Value.bool false)] = [(Value.bool true)])))) ∧ (((g.setok (d22.f) ((ByteArray.mk (Array.mk [(107 : UInt8)])) ++ (std.sof (std.ints [(Value.int IntKind.u8 (std.wrap IntKind.u8 ((97 : Int) + (std.quo (d22.i) (26 : Int))))), (Value.int IntKind.u8 (std.wrap IntKind.u8 ((97 : Int) + (std.rem (d22.i) (26 : Int)))))]))) (ByteArray.mk (Array.mk []))) = false) → ((((decide ((d22.i) < (30 : Int))) = true) → ([(Value.bool false)] = [(Value.bool true)])) ∧ (((decide ((d22.i) < (30 : Int))) = false) → ((((-9223372036854775808 : Int) ≤ ((d22.i) + (1 : Int))) ∧ (((d22.i) + (1 : Int)) ≤ (9223372036854775807 : Int))) ∧ (∃ (d27 : OrC), (([(Filler.val (Value.int IntKind.i64 n)), (Filler.dl (g.pairs xs)), (Filler.dl (d27.x)), (Filler.dl (d27.y)), (Filler.dl (d27.f)), (Filler.val (Value.int IntKind.i64 (d27.i)))] = [(Filler.val (Value.int IntKind.i64 n)), (Filler.dl (g.pairs xs)), (Filler.dl (d22.x)), (Filler.dl (d22.y)), (Filler.dl (g.set (d22.f) ((ByteArray.mk (Array.mk [(107 : UInt8)])) ++ (std.sof (std.ints [(Value.int IntKind.u8 (std.wrap IntKind.u8 ((97 : Int) + (std.quo (d22.i) (26 : Int))))), (Value.int IntKind.u8 (std.wrap IntKind.u8 ((97 : Int) + (std.rem (d22.i) (26 : Int)))))]))) (ByteArray.mk (Array.mk [])))), (Filler.val (Value.int IntKind.i64 ((d22.i) + (1 : Int))))]) ∧ ((Nat.le (Nat.succ (w d27)) (w d22)) ∧ (G d27)))))))))))))))) ∧ (((decide ((d22.i) < (32 : Int))) = false) → ((((!(((List.length (d22.f)) : Int) == (30 : Int))) = true) → ([(Value.bool false)] = [(Value.bool true)])) ∧ (((!(((List.length (d22.f)) : Int) == (30 : Int))) = false) → ((((-9223372036854775808 : Int) ≤ (((List.length (d22.f)) : Int) - (1 : Int))) ∧ ((((List.length (d22.f)) : Int) - (1 : Int)) ≤ (9223372036854775807 : Int))) ∧ (((((-9223372036854775808 : Int) ≤ n) ∧ (n ≤ (9223372036854775807 : Int))) ∧ (((-1000000000000 : Int) ≤ (0 : Int)) ∧ (((0 : Int) ≤ (((List.length (d22.f)) : Int) - (1 : Int))) ∧ ((((List.length (d22.f)) : Int) - (1 : Int)) ≤ (2000000000000 : Int))))) ∧ ((((0 : Int) ≤ (g.wi n (0 : Int) (((List.length (d22.f)) : Int) - (1 : Int)))) ∧ ((g.wi n (0 : Int) (((List.length (d22.f)) : Int) - (1 : Int))) < ((List.length (d22.f)) : Int))) ∧ (((List.length (d22.f)) ≤ 1000000) ∧ ((((g.setok (d22.f) (kP (d22.f) (Int.toNat (g.wi n (0 : Int) (((List.length (d22.f)) : Int) - (1 : Int))))) (ByteArray.mk (Array.mk [(110 : UInt8), (101 : UInt8), (119 : UInt8)]))) = true) → (((List.length (d22.x)) ≤ 1000000) ∧ ((((g.same (d22.x) (g.pairs xs)) = true) → (((List.length (d22.y)) ≤ 1000000) ∧ (((List.length (g.del (d22.y) (ByteArray.mk (Array.mk [(109 : UInt8)])))) ≤ 1000000) ∧ ((((g.same (g.del (d22.y) (ByteArray.mk (Array.mk [(109 : UInt8)]))) (g.pairs xs)) = true) → (((((((List.length (g.set (d22.f) (kP (d22.f) (Int.toNat (g.wi n (0 : Int) (((List.length (d22.f)) : Int) - (1 : Int))))) (ByteArray.mk (Array.mk [(110 : UInt8), (101 : UInt8), (119 : UInt8)])))) : Nat) : Int) == ((List.length (d22.f)) : Int)) = true) → (((List.length (d22.f)) ≤ 1000000) ∧ ((((g.right (d22.f)) = true) → ([(Value.bool true)] = [(Value.bool true)])) ∧ (((g.right (d22.f)) = false) → ([(Value.bool false)] = [(Value.bool true)]))))) ∧ ((((((List.length (g.set (d22.f) (kP (d22.f) (Int.toNat (g.wi n (0 : Int) (((List.length (d22.f)) : Int) - (1 : Int))))) (ByteArray.mk (Array.mk [(110 : UInt8), (101 : UInt8), (119 : UInt8)])))) : Nat) : Int) == ((List.length (d22.f)) : Int)) = false) → ([(Value.bool false)] = [(Value.bool true)])))) ∧ (((g.same (g.del (d22.y) (ByteArray.mk (Array.mk [(109 : UInt8)]))) (g.pairs xs)) = false) → ([(Value.bool false)] = [(Value.bool true)])))))) ∧ (((g.same (d22.x) (g.pairs xs)) = false) → ([(Value.bool false)] = [(Value.bool true)]))))) ∧ (((g.setok (d22.f) (kP (d22.f) (Int.toNat (g.wi n (0 : Int) (((List.length (d22.f)) : Int) - (1 : Int))))) (ByteArray.mk (Array.mk [(110 : UInt8), (101 : UInt8), (119 : UInt8)]))) = false) → (((List.length (d22.x)) ≤ 1000000) ∧ ((((g.same (d22.x) (g.pairs xs)) = true) → (((List.length (d22.y)) ≤ 1000000) ∧ (((List.length (g.del (d22.y) (ByteArray.mk (Array.mk [(109 : UInt8)])))) ≤ 1000000) ∧ ((((g.same (g.del (d22.y) (ByteArray.mk (Array.mk [(109 : UInt8)]))) (g.pairs xs)) = true) → ([(Value.bool false)] = [(Value.bool true)])) ∧ (((g.same (g.del (d22.y) (ByteArray.mk (Array.mk [(109 : UInt8)]))) (g.pairs xs)) = false) → ([(Value.bool false)] = [(Value.bool true)])))))) ∧ (((g.same (d22.x) (g.pairs xs)) = false) → ([(Value.bool false)] = [(Value.bool true)])))))))))))))))))))
def order_vc_L2 (g : KvF) (xs : List Value) (n : Int) (J : OrB → Prop) (q : OrB → Nat) (G : OrC → Prop) (w : OrC → Nat) (d13 : OrA) : Prop :=
  (∃ (d16 : OrB), (([(Filler.val (Value.int IntKind.i64 n)), (Filler.dl (g.pairs xs)), (Filler.dl (d16.x)), (Filler.dl (d16.tu)), (Filler.val (Value.int IntKind.i64 (d16.n))), (Filler.val (Value.int IntKind.i64 (d16.i)))] = [(Filler.val (Value.int IntKind.i64 n)), (Filler.dl (g.pairs xs)), (Filler.dl []), (Filler.dl (d13.tu)), (Filler.val (Value.int IntKind.i64 ((List.length (d13.tu)) : Int))), (Filler.val (Value.int IntKind.i64 (0 : Int)))]) ∧ ((J d16) ∧ (∀ (d17 : OrB), ((J d17) → ((((decide ((d17.i) < (d17.n))) = true) → ((((0 : Int) ≤ (d17.i)) ∧ ((d17.i) < ((List.length (d17.tu)) : Int))) ∧ (((List.length (d17.x)) ≤ 1000000) ∧ ((((g.setok (d17.x) (kP (d17.tu) (Int.toNat (d17.i))) (ByteArray.mk (Array.mk [(110 : UInt8), (111 : UInt8)]))) = true) → (((List.length (g.set (d17.x) (kP (d17.tu) (Int.toNat (d17.i))) (ByteArray.mk (Array.mk [(110 : UInt8), (111 : UInt8)])))) ≤ 1000000) ∧ ((((g.setok (g.set (d17.x) (kP (d17.tu) (Int.toNat (d17.i))) (ByteArray.mk (Array.mk [(110 : UInt8), (111 : UInt8)]))) (kP (d17.tu) (Int.toNat (d17.i))) (vP (d17.tu) (Int.toNat (d17.i)))) = true) → ((((-9223372036854775808 : Int) ≤ ((d17.i) + (1 : Int))) ∧ (((d17.i) + (1 : Int)) ≤ (9223372036854775807 : Int))) ∧ (∃ (d22 : OrB), (([(Filler.val (Value.int IntKind.i64 n)), (Filler.dl (g.pairs xs)), (Filler.dl (d22.x)), (Filler.dl (d22.tu)), (Filler.val (Value.int IntKind.i64 (d22.n))), (Filler.val (Value.int IntKind.i64 (d22.i)))] = [(Filler.val (Value.int IntKind.i64 n)), (Filler.dl (g.pairs xs)), (Filler.dl (g.set (g.set (d17.x) (kP (d17.tu) (Int.toNat (d17.i))) (ByteArray.mk (Array.mk [(110 : UInt8), (111 : UInt8)]))) (kP (d17.tu) (Int.toNat (d17.i))) (vP (d17.tu) (Int.toNat (d17.i))))), (Filler.dl (d17.tu)), (Filler.val (Value.int IntKind.i64 (d17.n))), (Filler.val (Value.int IntKind.i64 ((d17.i) + (1 : Int))))]) ∧ ((Nat.le (Nat.succ (q d22)) (q d17)) ∧ (J d22)))))) ∧ (((g.setok (g.set (d17.x) (kP (d17.tu) (Int.toNat (d17.i))) (ByteArray.mk (Array.mk [(110 : UInt8), (111 : UInt8)]))) (kP (d17.tu) (Int.toNat (d17.i))) (vP (d17.tu) (Int.toNat (d17.i)))) = false) → ((((-9223372036854775808 : Int) ≤ ((d17.i) + (1 : Int))) ∧ (((d17.i) + (1 : Int)) ≤ (9223372036854775807 : Int))) ∧ (∃ (d22 : OrB), (([(Filler.val (Value.int IntKind.i64 n)), (Filler.dl (g.pairs xs)), (Filler.dl (d22.x)), (Filler.dl (d22.tu)), (Filler.val (Value.int IntKind.i64 (d22.n))), (Filler.val (Value.int IntKind.i64 (d22.i)))] = [(Filler.val (Value.int IntKind.i64 n)), (Filler.dl (g.pairs xs)), (Filler.dl (g.set (g.set (d17.x) (kP (d17.tu) (Int.toNat (d17.i))) (ByteArray.mk (Array.mk [(110 : UInt8), (111 : UInt8)]))) (kP (d17.tu) (Int.toNat (d17.i))) (vP (d17.tu) (Int.toNat (d17.i))))), (Filler.dl (d17.tu)), (Filler.val (Value.int IntKind.i64 (d17.n))), (Filler.val (Value.int IntKind.i64 ((d17.i) + (1 : Int))))]) ∧ ((Nat.le (Nat.succ (q d22)) (q d17)) ∧ (J d22))))))))) ∧ (((g.setok (d17.x) (kP (d17.tu) (Int.toNat (d17.i))) (ByteArray.mk (Array.mk [(110 : UInt8), (111 : UInt8)]))) = false) → (((List.length (g.set (d17.x) (kP (d17.tu) (Int.toNat (d17.i))) (ByteArray.mk (Array.mk [(110 : UInt8), (111 : UInt8)])))) ≤ 1000000) ∧ ((((g.setok (g.set (d17.x) (kP (d17.tu) (Int.toNat (d17.i))) (ByteArray.mk (Array.mk [(110 : UInt8), (111 : UInt8)]))) (kP (d17.tu) (Int.toNat (d17.i))) (vP (d17.tu) (Int.toNat (d17.i)))) = true) → ((((-9223372036854775808 : Int) ≤ ((d17.i) + (1 : Int))) ∧ (((d17.i) + (1 : Int)) ≤ (9223372036854775807 : Int))) ∧ (∃ (d22 : OrB), (([(Filler.val (Value.int IntKind.i64 n)), (Filler.dl (g.pairs xs)), (Filler.dl (d22.x)), (Filler.dl (d22.tu)), (Filler.val (Value.int IntKind.i64 (d22.n))), (Filler.val (Value.int IntKind.i64 (d22.i)))] = [(Filler.val (Value.int IntKind.i64 n)), (Filler.dl (g.pairs xs)), (Filler.dl (g.set (g.set (d17.x) (kP (d17.tu) (Int.toNat (d17.i))) (ByteArray.mk (Array.mk [(110 : UInt8), (111 : UInt8)]))) (kP (d17.tu) (Int.toNat (d17.i))) (vP (d17.tu) (Int.toNat (d17.i))))), (Filler.dl (d17.tu)), (Filler.val (Value.int IntKind.i64 (d17.n))), (Filler.val (Value.int IntKind.i64 ((d17.i) + (1 : Int))))]) ∧ ((Nat.le (Nat.succ (q d22)) (q d17)) ∧ (J d22)))))) ∧ (((g.setok (g.set (d17.x) (kP (d17.tu) (Int.toNat (d17.i))) (ByteArray.mk (Array.mk [(110 : UInt8), (111 : UInt8)]))) (kP (d17.tu) (Int.toNat (d17.i))) (vP (d17.tu) (Int.toNat (d17.i)))) = false) → ((((-9223372036854775808 : Int) ≤ ((d17.i) + (1 : Int))) ∧ (((d17.i) + (1 : Int)) ≤ (9223372036854775807 : Int))) ∧ (∃ (d22 : OrB), (([(Filler.val (Value.int IntKind.i64 n)), (Filler.dl (g.pairs xs)), (Filler.dl (d22.x)), (Filler.dl (d22.tu)), (Filler.val (Value.int IntKind.i64 (d22.n))), (Filler.val (Value.int IntKind.i64 (d22.i)))] = [(Filler.val (Value.int IntKind.i64 n)), (Filler.dl (g.pairs xs)), (Filler.dl (g.set (g.set (d17.x) (kP (d17.tu) (Int.toNat (d17.i))) (ByteArray.mk (Array.mk [(110 : UInt8), (111 : UInt8)]))) (kP (d17.tu) (Int.toNat (d17.i))) (vP (d17.tu) (Int.toNat (d17.i))))), (Filler.dl (d17.tu)), (Filler.val (Value.int IntKind.i64 (d17.n))), (Filler.val (Value.int IntKind.i64 ((d17.i) + (1 : Int))))]) ∧ ((Nat.le (Nat.succ (q d22)) (q d17)) ∧ (J d22))))))))))))) ∧ (((decide ((d17.i) < (d17.n))) = false) → (((List.length (d17.x)) ≤ 1000000) ∧ ((((g.setok (d17.x) (ByteArray.mk (Array.mk [(109 : UInt8)])) (ByteArray.mk (Array.mk []))) = true) → (order_vc_L1 g xs n G w d17)) ∧ (((g.setok (d17.x) (ByteArray.mk (Array.mk [(109 : UInt8)])) (ByteArray.mk (Array.mk []))) = false) → (order_vc_L1 g xs n G w d17)))))))))))
def order_vc_L3 (g : KvF) (xs : List Value) (os : List Value) (n : Int) (I : OrA → Prop) (m : OrA → Nat) (J : OrB → Prop) (q : OrB → Nat) (G : OrC → Prop) (w : OrC → Nat) : Prop :=
  (∃ (d12 : OrA), (([(Filler.dl os), (Filler.val (Value.int IntKind.i64 n)), (Filler.dl (g.pairs xs)), (Filler.dl (d12.tu)), (Filler.val (Value.int IntKind.i64 (d12.i)))] = [(Filler.dl os), (Filler.val (Value.int IntKind.i64 n)), (Filler.dl (g.pairs xs)), (Filler.dl (g.pairs xs)), (Filler.val (Value.int IntKind.i64 (0 : Int)))]) ∧ ((I d12) ∧ (∀ (d13 : OrA), ((I d13) → ((((decide ((d13.i) < ((List.length os) : Int))) = true) → ((((decide ((1 : Int) < ((List.length (d13.tu)) : Int))) = true) → ((((0 : Int) ≤ (d13.i)) ∧ ((d13.i) < ((List.length os) : Int))) ∧ ((((-9223372036854775808 : Int) ≤ (((List.length (d13.tu)) : Int) - (1 : Int))) ∧ ((((List.length (d13.tu)) : Int) - (1 : Int)) ≤ (9223372036854775807 : Int))) ∧ (((((-9223372036854775808 : Int) ≤ (eI os (Int.toNat (d13.i)))) ∧ ((eI os (Int.toNat (d13.i))) ≤ (9223372036854775807 : Int))) ∧ (((-1000000000000 : Int) ≤ (0 : Int)) ∧ (((0 : Int) ≤ (((List.length (d13.tu)) : Int) - (1 : Int))) ∧ ((((List.length (d13.tu)) : Int) - (1 : Int)) ≤ (2000000000000 : Int))))) ∧ ((((0 : Int) ≤ (g.wi (eI os (Int.toNat (d13.i))) (0 : Int) (((List.length (d13.tu)) : Int) - (1 : Int)))) ∧ ((g.wi (eI os (Int.toNat (d13.i))) (0 : Int) (((List.length (d13.tu)) : Int) - (1 : Int))) < ((List.length (d13.tu)) : Int))) ∧ ((((List.length [(Value.agg (Array.mk [(Value.string (kP (d13.tu) (Int.toNat (g.wi (eI os (Int.toNat (d13.i))) (0 : Int) (((List.length (d13.tu)) : Int) - (1 : Int)))))), (Value.string (vP (d13.tu) (Int.toNat (g.wi (eI os (Int.toNat (d13.i))) (0 : Int) (((List.length (d13.tu)) : Int) - (1 : Int))))))]))]) * 32) ≤ 140737488355328) ∧ (((((0 : Int) ≤ (g.wi (eI os (Int.toNat (d13.i))) (0 : Int) (((List.length (d13.tu)) : Int) - (1 : Int)))) ∧ ((g.wi (eI os (Int.toNat (d13.i))) (0 : Int) (((List.length (d13.tu)) : Int) - (1 : Int))) ≤ ((List.length (d13.tu)) : Int))) ∧ True) ∧ ((((List.length ([(Value.agg (Array.mk [(Value.string (kP (d13.tu) (Int.toNat (g.wi (eI os (Int.toNat (d13.i))) (0 : Int) (((List.length (d13.tu)) : Int) - (1 : Int)))))), (Value.string (vP (d13.tu) (Int.toNat (g.wi (eI os (Int.toNat (d13.i))) (0 : Int) (((List.length (d13.tu)) : Int) - (1 : Int))))))]))] ++ (List.take ((Int.toNat (g.wi (eI os (Int.toNat (d13.i))) (0 : Int) (((List.length (d13.tu)) : Int) - (1 : Int)))) - 0) (List.drop 0 (d13.tu))))) * 32) ≤ 140737488355328) ∧ ((((-9223372036854775808 : Int) ≤ ((g.wi (eI os (Int.toNat (d13.i))) (0 : Int) (((List.length (d13.tu)) : Int) - (1 : Int))) + (1 : Int))) ∧ (((g.wi (eI os (Int.toNat (d13.i))) (0 : Int) (((List.length (d13.tu)) : Int) - (1 : Int))) + (1 : Int)) ≤ (9223372036854775807 : Int))) ∧ ((True ∧ (((0 : Int) ≤ ((g.wi (eI os (Int.toNat (d13.i))) (0 : Int) (((List.length (d13.tu)) : Int) - (1 : Int))) + (1 : Int))) ∧ (((g.wi (eI os (Int.toNat (d13.i))) (0 : Int) (((List.length (d13.tu)) : Int) - (1 : Int))) + (1 : Int)) ≤ ((List.length (d13.tu)) : Int)))) ∧ ((((List.length (([(Value.agg (Array.mk [(Value.string (kP (d13.tu) (Int.toNat (g.wi (eI os (Int.toNat (d13.i))) (0 : Int) (((List.length (d13.tu)) : Int) - (1 : Int)))))), (Value.string (vP (d13.tu) (Int.toNat (g.wi (eI os (Int.toNat (d13.i))) (0 : Int) (((List.length (d13.tu)) : Int) - (1 : Int))))))]))] ++ (List.take ((Int.toNat (g.wi (eI os (Int.toNat (d13.i))) (0 : Int) (((List.length (d13.tu)) : Int) - (1 : Int)))) - 0) (List.drop 0 (d13.tu)))) ++ (List.take ((List.length (d13.tu)) - (Int.toNat ((g.wi (eI os (Int.toNat (d13.i))) (0 : Int) (((List.length (d13.tu)) : Int) - (1 : Int))) + (1 : Int)))) (List.drop (Int.toNat ((g.wi (eI os (Int.toNat (d13.i))) (0 : Int) (((List.length (d13.tu)) : Int) - (1 : Int))) + (1 : Int))) (d13.tu))))) * 32) ≤ 140737488355328) ∧ ((((-9223372036854775808 : Int) ≤ ((d13.i) + (1 : Int))) ∧ (((d13.i) + (1 : Int)) ≤ (9223372036854775807 : Int))) ∧ (∃ (d17 : OrA), (([(Filler.dl os), (Filler.val (Value.int IntKind.i64 n)), (Filler.dl (g.pairs xs)), (Filler.dl (d17.tu)), (Filler.val (Value.int IntKind.i64 (d17.i)))] = [(Filler.dl os), (Filler.val (Value.int IntKind.i64 n)), (Filler.dl (g.pairs xs)), (Filler.dl (([(Value.agg (Array.mk [(Value.string (kP (d13.tu) (Int.toNat (g.wi (eI os (Int.toNat (d13.i))) (0 : Int) (((List.length (d13.tu)) : Int) - (1 : Int)))))), (Value.string (vP (d13.tu) (Int.toNat (g.wi (eI os (Int.toNat (d13.i))) (0 : Int) (((List.length (d13.tu)) : Int) - (1 : Int))))))]))] ++ (List.take ((Int.toNat (g.wi (eI os (Int.toNat (d13.i))) (0 : Int) (((List.length (d13.tu)) : Int) - (1 : Int)))) - 0) (List.drop 0 (d13.tu)))) ++ (List.take ((List.length (d13.tu)) - (Int.toNat ((g.wi (eI os (Int.toNat (d13.i))) (0 : Int) (((List.length (d13.tu)) : Int) - (1 : Int))) + (1 : Int)))) (List.drop (Int.toNat ((g.wi (eI os (Int.toNat (d13.i))) (0 : Int) (((List.length (d13.tu)) : Int) - (1 : Int))) + (1 : Int))) (d13.tu))))), (Filler.val (Value.int IntKind.i64 ((d13.i) + (1 : Int))))]) ∧ ((Nat.le (Nat.succ (m d17)) (m d13)) ∧ (I d17)))))))))))))))) ∧ (((decide ((1 : Int) < ((List.length (d13.tu)) : Int))) = false) → (order_vc_L2 g xs n J q G w d13)))) ∧ (((decide ((d13.i) < ((List.length os) : Int))) = false) → (order_vc_L2 g xs n J q G w d13))))))))
end Go.Proofs.Ytecdmdglkkeidaa
end
section
namespace Go.Proofs.Ytecdmdglkkeidaa
open Go.RowKit Go.Abs Go
/-- Ordered rows of the same pairs are the same. -/
theorem ord_ext : ∀ {l m : List Value}, Ord l → Ord m → (∀ x, x ∈ l ↔ x ∈ m) → l = m
  | [], [], _, _, _ => rfl
  | [], b :: m, _, _, h => by have := (h b).2 (List.mem_cons_self ..); cases this
  | a :: l, [], _, _, h => by have := (h a).1 (List.mem_cons_self ..); cases this
  | a :: l, b :: m, h1, h2, h => by
    obtain ⟨a1, o1⟩ := List.pairwise_cons.1 h1
    obtain ⟨a2, o2⟩ := List.pairwise_cons.1 h2
    have e : a = b := by
      rcases List.mem_cons.1 ((h a).1 (List.mem_cons_self ..)) with e | ha
      · exact e
      · rcases List.mem_cons.1 ((h b).2 (List.mem_cons_self ..)) with e | hb
        · exact e.symm
        · have := lt_trans (a1 b hb) (a2 a ha)
          rw [lt_irrefl] at this; cases this
    subst e
    rw [ord_ext o1 o2 fun x => ⟨fun hx => ?_, fun hx => ?_⟩]
    · rcases List.mem_cons.1 ((h x).1 (List.mem_cons_of_mem _ hx)) with e | hm
      · subst e; have := a1 x hx; rw [lt_irrefl] at this; cases this
      · exact hm
    · rcases List.mem_cons.1 ((h x).2 (List.mem_cons_of_mem _ hx)) with e | hm
      · subst e; have := a2 x hx; rw [lt_irrefl] at this; cases this
      · exact hm
/-- What is in a row that was set. -/
theorem rset_mem {l : List Value} (ho : Ord l) (k v : ByteArray) : (∀ y, y ∈ rsetF l k v ↔ y = prV k v ∨ y ∈ l ∧ keyV y ≠ k) ∧
    (((∃ x ∈ l, keyV x = k) ∧ (rsetF l k v).length = l.length ∧ fdF l k = true) ∨ ((∀ x ∈ l, keyV x ≠ k) ∧ (rsetF l k v).length = l.length + 1 ∧ fdF l k = false)) := by
  obtain ⟨r, hr, hle, h1, h2, h3⟩ := split_at k ho
  rw [fd_eq k ho]
  unfold rsetF putF
  rw [hr, Int.toNat_natCast]
  rw [hr, Int.toNat_natCast] at h2 h3
  have ne1 : ∀ x ∈ l.take r, keyV x ≠ k := fun x hx e => by have := h1 x hx; rw [e, lt_irrefl] at this; cases this
  have hl : ∀ y, y ∈ l ↔ y ∈ l.take r ∨ y ∈ l.drop r := fun y => by
    have := List.take_append_drop r l
    rw [← List.mem_append, this]
  cases hc : (decide ((r : Int) < (l.length : Int)) && eqB (kP l r) k) with
  | true =>
    obtain ⟨hlt, h4, h5⟩ := h3 hc
    have ne2 : ∀ x ∈ l.drop (r + 1), keyV x ≠ k := fun x hx e => by have := h5 x hx; rw [e, lt_irrefl] at this; cases this
    have hd : l.drop r = l[r] :: l.drop (r + 1) := List.drop_eq_getElem_cons hlt
    rw [if_pos rfl]
    refine ⟨fun y => ?_, .inl ⟨⟨l[r], List.getElem_mem hlt, h4⟩, ?_, rfl⟩⟩
    · rw [hl y, hd]
      simp only [List.mem_append, List.mem_cons, List.not_mem_nil, or_false]
      constructor
      · rintro ((h | h) | h)
        · exact .inr ⟨.inl h, ne1 y h⟩
        · exact .inl h
        · exact .inr ⟨.inr (.inr h), ne2 y h⟩
      · rintro (h | ⟨h | h | h, hk⟩)
        · exact .inl (.inr h)
        · exact .inl (.inl h)
        · rw [h] at hk; exact absurd h4 hk
        · exact .inr h
    · simp only [List.length_append, List.length_take, List.length_drop, List.length_cons, List.length_nil]; omega
  | false =>
    have ne2 : ∀ x ∈ l.drop r, keyV x ≠ k := fun x hx e => by have := h2 hc x hx; rw [e, lt_irrefl] at this; cases this
    rw [if_neg Bool.false_ne_true]
    refine ⟨fun y => ?_, .inr ⟨fun x hx => ?_, ?_, rfl⟩⟩
    · rw [hl y]
      simp only [List.mem_append, List.mem_cons, List.not_mem_nil, or_false]
      constructor
      · rintro ((h | h) | h)
        · exact .inr ⟨.inl h, ne1 y h⟩
        · exact .inl h
        · exact .inr ⟨.inr h, ne2 y h⟩
      · rintro (h | ⟨h | h, hk⟩)
        · exact .inl (.inr h)
        · exact .inl (.inl h)
        · exact .inr h
    · rcases (hl x).1 hx with h | h
      · exact ne1 x h
      · exact ne2 x h
    · simp only [List.length_append, List.length_take, List.length_drop, List.length_cons, List.length_nil]; omega
theorem set_mem {l : List Value} (h : RightL l) {k v : ByteArray} (hm : mayF k v = true) (hroom : l.length < 30 ∨ ∃ x ∈ l, keyV x = k) : RightL (setF l k v) ∧ (∀ y, y ∈ setF l k v ↔ y = prV k v ∨ y ∈ l ∧ keyV y ≠ k) ∧
    (((∃ x ∈ l, keyV x = k) ∧ (setF l k v).length = l.length) ∨ ((∀ x ∈ l, keyV x ≠ k) ∧ (setF l k v).length = l.length + 1)) := by
  have ho := ((right_iff l).1 h.1).2.1
  obtain ⟨h1, h2⟩ := rset_mem ho k v
  have hok : setokF l k v = true := by
    unfold setokF
    rw [hm, Bool.true_and, Bool.or_eq_true]
    rcases hroom with hr | ⟨x, hx, he⟩
    · right; rw [decide_eq_true_eq]; omega
    · left
      rcases h2 with ⟨_, _, h3⟩ | ⟨h3, _⟩
      · exact h3
      · exact absurd he (h3 x hx)
  obtain ⟨e, hr⟩ := set_rset h hok
  rw [e]
  exact ⟨hr, h1, h2.imp (fun h => ⟨h.1, h.2.1⟩) fun h => ⟨h.1, h.2.1⟩⟩
def mB : ByteArray := ⟨#[109]⟩
def noW : ByteArray := ⟨#[110, 111]⟩
def newW : ByteArray := ⟨#[110, 101, 119]⟩
/-- The pairs of a step of KvOrder's second loop. -/
theorem two_sets {l : List Value} (h : RightL l) {k v : ByteArray} (hm : mayF k v = true) (hroom : l.length < 30) (hn : ∀ x ∈ l, keyV x ≠ k) :
    RightL (setF (setF l k noW) k v) ∧ (setF l k noW).length ≤ 30 ∧ (setF (setF l k noW) k v).length = l.length + 1 ∧ ∀ y, y ∈ setF (setF l k noW) k v ↔ y ∈ l ∨ y = prV k v := by
  have hm1 : mayF k noW = true := by
    unfold mayF at hm ⊢
    simp only [Bool.and_eq_true] at hm ⊢
    exact ⟨hm.1, hm.2.1, rfl⟩
  obtain ⟨r1, m1, l1⟩ := set_mem h hm1 (.inl hroom)
  have hlen1 : (setF l k noW).length = l.length + 1 := by
    rcases l1 with ⟨⟨x, hx, he⟩, _⟩ | ⟨_, h2⟩
    · exact absurd he (hn x hx)
    · exact h2
  have hin : prV k noW ∈ setF l k noW := (m1 _).2 (.inl rfl)
  obtain ⟨r2, m2, l2⟩ := set_mem r1 hm (.inr ⟨_, hin, rfl⟩)
  refine ⟨r2, by omega, ?_, fun y => ?_⟩
  · rcases l2 with ⟨_, h2⟩ | ⟨h2, _⟩
    · omega
    · exact absurd rfl (h2 _ hin)
  · rw [m2 y, m1 y]
    constructor
    · rintro (h | ⟨h | h, hk⟩)
      · exact .inr h
      · rw [h] at hk; exact absurd rfl hk
      · exact .inl h.1
    · rintro (h | h)
      · exact .inr ⟨.inr ⟨h, hn y h⟩, hn y h⟩
      · exact .inl h
/-- Set and taken out: as if it had never been. -/
theorem set_del {l : List Value} (h : RightL l) (hroom : l.length < 30) (hn : ∀ x ∈ l, keyV x ≠ mB) : (setF l mB noB).length ≤ 30 ∧ (dropF (setF l mB noB) mB).length ≤ 30 ∧ dropF (setF l mB noB) mB = l := by
  obtain ⟨r1, m1, _⟩ := set_mem (k := mB) (v := noB) h rfl (.inl hroom)
  have ho := ((right_iff _).1 r1.1).2
  have e : dropF (setF l mB noB) mB = l := by
    rw [drop_rdel mB r1.2 ho.1, rdel_eq mB r1.2]
    refine ord_ext (ho.1.filter _) ((right_iff l).1 h.1).2.1 fun x => ?_
    rw [List.mem_filter, m1 x]
    constructor
    · rintro ⟨h1 | h1, h2⟩
      · rw [h1] at h2; cases h2
      · exact h1.1
    · intro hx
      refine ⟨.inr ⟨hx, hn x hx⟩, ?_⟩
      cases c : eqB (keyV x) mB with
      | false => rfl
      | true => exact absurd (eqB_iff.1 c) (hn x hx)
  exact ⟨ho.2, by rw [e]; omega, e⟩
/-- Thirty keys, and no more. -/
def keyN (i : Int) : ByteArray := ⟨#[107]⟩ ++ std.sof (std.ints [.int .u8 (std.wrap .u8 (97 + std.quo i 26)), .int .u8 (std.wrap .u8 (97 + std.rem i 26))])
def fullL : Nat → List Value
  | 0 => []
  | i + 1 => setF (fullL i) (keyN i) noB
theorem full_ok : ∀ i, i < 32 → setokF (fullL i) (keyN i) noB = decide (i < 30) ∧ (fullL i).length ≤ 30 ∧ std.slen (std.sof (std.ints [Value.int .u8 (std.wrap .u8 (97 + std.quo i 26)), Value.int .u8 (std.wrap .u8 (97 + std.rem i 26))])) ≤ 100 := by decide +kernel
theorem full_len : (fullL 32).length = 30 ∧ rightF mayF (fullL 32) = true := by decide +kernel
theorem full_new : ∀ k, k < 30 → setokF (fullL 32) (kP (fullL 32) k) newW = true ∧ (setF (fullL 32) (kP (fullL 32) k) newW).length = 30 := by decide +kernel
theorem pairs_keys (xs : List Value) : (pairsF xs).length ≤ 12 ∧ ∀ x ∈ pairsF xs, keyV x ≠ mB := by
  refine ⟨outL_len _ 12, fun x hx => ?_⟩
  obtain ⟨j, s, h1, rfl, _⟩ := out_mem (es_vals xs _) hx
  have : ∀ j, j < 12 → eqB (eS keysV j) mB = false := by decide +kernel
  intro e
  have h2 := this j h1
  rw [show eS keysV j = mB from e, eqB_iff.2 rfl] at h2
  cases h2
/-- A row turned. -/
theorem turn_perm {l : List Value} (hw : Wf l) {k : Nat} (hk : k < l.length) : (([prV (kP l k) (vP l k)] ++ List.take (k - 0) (List.drop 0 l)) ++ List.take (l.length - (k + 1)) (List.drop (k + 1) l)).Perm l := by
  have e : prV (kP l k) (vP l k) = l[k] := by rw [kP_get hk, vP_get hk]; exact (hw _ (List.getElem_mem hk)).symm
  rw [e, Nat.sub_zero, List.drop_zero, take_rest]
  have h2 : l = l.take k ++ l[k] :: l.drop (k + 1) := by
    rw [← List.drop_eq_getElem_cons hk, List.take_append_drop]
  conv => rhs; rw [h2]
  exact (List.perm_middle (a := l[k]) (l₁ := l.take k) (l₂ := l.drop (k + 1))).symm
end Go.Proofs.Ytecdmdglkkeidaa
end
section
namespace Go.Proofs.Ytecdmdglkkeidaa
open Go.RowKit Go.Abs Go
theorem len_app (a b : ByteArray) : lenB (a ++ b) = lenB a + lenB b := by
  unfold lenB
  rw [ByteArray.data_append, Array.toList_append, List.length_append]
theorem keyS_len (s : ByteArray) : lenB (keyS s) = 2 + lenB s := len_app sB s
theorem keyS_list (s : ByteArray) : (keyS s).data.toList = 115 :: 47 :: s.data.toList := by
  unfold keyS
  rw [ByteArray.data_append, Array.toList_append]; rfl
theorem keyS_is (s : ByteArray) : isF (keyS s) = true := by
  unfold isF
  rw [keyS_len, decide_eq_true (by omega), Bool.true_and]
  have : std.ssub (keyS s) 0 2 = sB := by
    show (⟨(((keyS s).data.toList.drop 0).take (2 - 0)).toArray⟩ : ByteArray) = sB
    rw [keyS_list]; rfl
  rw [this]; exact eqB_iff.2 rfl
theorem keyS_ne (s : ByteArray) : eqB (keyS s) noB = false := by
  unfold eqB noB
  rw [keyS_list]; rfl
theorem bok_bad {l : List Value} {x : Value} (hx : x ∈ l) (h1 : isF (keyV x) = true) (h2 : rokF (valV x) = false) : bokF l = false := by
  obtain ⟨i, hi, rfl⟩ := List.getElem_of_mem hx
  have : bkSumL l (i + 1) = none := by
    unfold bkSumL
    split
    · rfl
    · rw [kP_get hi, vP_get hi, h1, if_pos rfl, h2, if_neg Bool.false_ne_true]
  unfold bokF
  rw [sum_none hi this]
theorem right_vals {l : List Value} (h : RightL l) : l.length ≤ 30 ∧ ∀ i, i < l.length → lenB (vP l i) ≤ 24 := by
  have hr := (right_iff l).1 h.1
  refine ⟨hr.2.2, fun i hi => ?_⟩
  have := hr.1 _ (List.getElem_mem hi)
  unfold mayF at this
  simp only [Bool.and_eq_true, decide_eq_true_eq] at this
  rw [vP_get hi]; omega
theorem setok_room {xs : List Value} {K v : ByteArray} (hm : mayF K v = true) : setokF xs K v = (fdF xs K || decide ((xs.length : Int) < 30)) := by
  unfold setokF; rw [hm, Bool.true_and]
theorem fd_mem {xs : List Value} (hR : RightL xs) (K : ByteArray) (h : fdF xs K = true) : ∃ x ∈ xs, keyV x = K := by
  have ho := ((right_iff xs).1 hR.1).2.1
  obtain ⟨_, h2⟩ := rset_mem ho K noB
  rcases h2 with ⟨h, _⟩ | ⟨_, _, h3⟩
  · exact h
  · rw [h] at h3; cases h3
theorem set_room {xs : List Value} (hR : RightL xs) {K v : ByteArray} (hm : mayF K v = true) (hr : (fdF xs K || decide ((xs.length : Int) < 30)) = true) : RightL (setF xs K v) ∧ prV K v ∈ setF xs K v := by
  obtain ⟨r1, m1, _⟩ := set_mem hR hm (by
    rw [Bool.or_eq_true, decide_eq_true_eq] at hr
    rcases hr with h | h
    · exact .inr (fd_mem hR K h)
    · exact .inl (by omega))
  exact ⟨r1, (m1 _).2 (.inl rfl)⟩
structure KeyOk (K : ByteArray) : Prop where
  ne : eqB K noB = false
  len : lenB K ≤ 16
  is : isF K = true
theorem may_key {K v : ByteArray} (hK : KeyOk K) (hv : lenB v ≤ 24) : mayF K v = true := by
  unfold mayF
  have := hK.len
  rw [hK.ne, decide_eq_true (by omega), decide_eq_true (by omega)]; rfl
theorem rcd_len (t r : Int) : lenB (rcdF t r) ≤ 24 := by
  unfold rcdF
  split
  · have := recB_len t r; omega
  · show 0 ≤ 24; omega
theorem impl_tail {xs : List Value} {K : ByteArray} (hR : RightL xs) (hK : KeyOk K) (t r : Int) {G : List Value} (hG : [dsl zP (stkTail xs K t r).1, Value.int .i64 (stkTail xs K t r).2] = G) :
    xs.length ≤ 1000000 ∧ ((kvF.setok xs K (stF.rcd t r) = true → ((kvF.set xs K (stF.rcd t r)).length ≤ 1000000 ∧ ∀ i, i < (kvF.set xs K (stF.rcd t r)).length → std.slen (vP (kvF.set xs K (stF.rcd t r)) i) ≤ 4000000) ∧
      ((stF.bok (kvF.set xs K (stF.rcd t r)) = true → [dsl zP (kvF.set xs K (stF.rcd t r)), Value.int .i64 0] = G) ∧ (stF.bok (kvF.set xs K (stF.rcd t r)) = false → [dsl zP xs, Value.int .i64 11] = G))) ∧ (kvF.setok xs K (stF.rcd t r) = false → [dsl zP xs, Value.int .i64 7] = G)) := by
  subst hG
  have hx := right_vals hR
  have hm := may_key hK (rcd_len t r)
  have e : kvF.setok xs K (stF.rcd t r) = (fdF xs K || decide ((xs.length : Int) < 30)) := setok_room hm
  rw [e]
  unfold stkTail
  refine ⟨by omega, fun h => ?_, fun h => ?_⟩
  · obtain ⟨h1, h2⟩ := set_room hR hm h
    have hv := right_vals h1
    rw [if_pos h]
    refine ⟨⟨by show (setF xs K (rcdF t r)).length ≤ _; omega, fun i hi => by have := hv.2 i hi; show lenB (vP (setF xs K (rcdF t r)) i) ≤ _; omega⟩, ?_⟩
    cases ht : isA t && isA r with
    | true =>
      have e2 : stF.rcd t r = recB t r := by show rcdF t r = _; unfold rcdF; rw [ht]; rfl
      rw [Bool.and_eq_true] at ht
      rw [e2, ht.1, ht.2, Bool.true_and, Bool.true_and]
      refine ⟨fun h3 => ?_, fun h3 => ?_⟩
      · rw [show bokF (setF xs K (recB t r)) = true from h3]; rfl
      · rw [show bokF (setF xs K (recB t r)) = false from h3]; rfl
    | false =>
      have e2 : rcdF t r = noB := by unfold rcdF; rw [ht]; rfl
      have hb : stF.bok (kvF.set xs K (stF.rcd t r)) = false := by
        show bokF (setF xs K (rcdF t r)) = false
        refine bok_bad h2 hK.is ?_
        show rokF (rcdF t r) = false
        rw [e2]; exact rok_none.1
      rw [hb, show (isA t && (isA r && bokF (setF xs K (recB t r)))) = false by rw [← Bool.and_assoc, ht]; rfl]
      exact ⟨fun h => (by cases h), fun _ => rfl⟩
  · rw [if_neg (by rw [h]; exact Bool.false_ne_true)]
theorem ref_tail {xs : List Value} {K : ByteArray} (hR : RightL xs) (hK : KeyOk K) {t r : Int} (ht : 0 ≤ t ∧ t ≤ 1099511627775) (hr : 0 ≤ r ∧ r ≤ 1099511627775) {G : List Value} (hG : [dsl zP (stkTail xs K t r).1, Value.int .i64 (stkTail xs K t r).2] = G) :
    xs.length ≤ 1000000 ∧ ((decide ((30 : Int) < ((kvF.rset xs K (stF.rrcd t r)).length : Int)) = true → [dsl zP xs, Value.int .i64 7] = G) ∧ (decide ((30 : Int) < ((kvF.rset xs K (stF.rrcd t r)).length : Int)) = false → ((kvF.rset xs K (stF.rrcd t r)).length ≤ 1000000 ∧ ∀ i, i < (kvF.rset xs K (stF.rrcd t r)).length → std.slen (vP (kvF.rset xs K (stF.rrcd t r)) i) ≤ 4000000) ∧
      ((stF.rbok (kvF.rset xs K (stF.rrcd t r)) = true → [dsl zP (kvF.rset xs K (stF.rrcd t r)), Value.int .i64 0] = G) ∧ (stF.rbok (kvF.rset xs K (stF.rrcd t r)) = false → [dsl zP xs, Value.int .i64 11] = G)))) := by
  subst hG
  have hx := right_vals hR
  have hm : mayF K (recB t r) = true := may_key hK (by have := recB_len t r; omega)
  have ho := ((right_iff xs).1 hR.1).2.1
  have hl := (rset_mem ho K (recB t r)).2
  have hroom : (fdF xs K || decide ((xs.length : Int) < 30)) = !decide ((30 : Int) < ((rsetF xs K (recB t r)).length : Int)) := by
    rcases hl with ⟨_, h1, h2⟩ | ⟨_, h1, h2⟩
    · rw [h2, h1, Bool.true_or, decide_eq_false (by omega)]; rfl
    · rw [h2, h1, Bool.false_or]
      by_cases c : xs.length < 30
      · rw [decide_eq_true (by omega), decide_eq_false (by omega)]; rfl
      · rw [decide_eq_false (by omega), decide_eq_true (by omega)]; rfl
  unfold stkTail
  rw [hroom]
  refine ⟨by omega, fun h => ?_, fun h => ?_⟩
  · have h : decide ((30 : Int) < ((rsetF xs K (recB t r)).length : Int)) = true := h
    rw [h]; rfl
  · have h : decide ((30 : Int) < ((rsetF xs K (recB t r)).length : Int)) = false := h
    rw [h]
    rw [h] at hroom
    have hroom : (fdF xs K || decide ((xs.length : Int) < 30)) = true := hroom
    obtain ⟨h1, h2⟩ := set_room hR hm hroom
    obtain ⟨e, _⟩ := set_rset hR (show setokF xs K (recB t r) = true by rw [setok_room hm]; exact hroom)
    have hv := right_vals h1
    have e3 : kvF.rset xs K (stF.rrcd t r) = setF xs K (recB t r) := e.symm
    rw [e3]
    refine ⟨⟨by omega, fun i hi => by have := hv.2 i hi; show lenB (vP (setF xs K (recB t r)) i) ≤ _; omega⟩, ?_⟩
    have hrec := rec_back ht hr
    cases hta : isA t && isA r with
    | true =>
      rw [Bool.and_eq_true] at hta
      rw [hta.1, hta.2, Bool.true_and, Bool.true_and]
      refine ⟨fun h3 => ?_, fun h3 => ?_⟩
      · rw [show bokF (setF xs K (recB t r)) = true from h3]; rfl
      · rw [show bokF (setF xs K (recB t r)) = false from h3]; rfl
    | false =>
      have hb : stF.rbok (setF xs K (recB t r)) = false := bok_bad h2 hK.is (by show rokF (recB t r) = false; rw [hrec.1, hta])
      rw [hb, show (isA t && (isA r && bokF (setF xs K (recB t r)))) = false by rw [← Bool.and_assoc, hta]; rfl]
      exact ⟨fun h => (by cases h), fun _ => rfl⟩
theorem stk_bad {k a b : Int} {xs : List Value} {s : ByteArray} (h : eqB s noB = true ∨ (16 : Int) < (lenB (keyS s) : Int) ∨ isA a = false) : stkF k xs s a b = (xs, 1) := by
  unfold stkF
  rw [if_pos]
  rcases h with h | h | h
  · rw [h]; rfl
  · rw [decide_eq_true h]; simp
  · rw [h]; simp
theorem stk_go {k a b : Int} {xs : List Value} {s : ByteArray} (h1 : eqB s noB = false) (h2 : ¬ (16 : Int) < (lenB (keyS s) : Int)) (h3 : isA a = true) : stkF k xs s a b =
    if fdF xs (keyS s) && !rokF (getF xs (keyS s)) then (xs, 1) else if !fdF xs (keyS s) && !decide (k = 1) then (xs, 3) else
    if (turnF k a b (rtokF (getF xs (keyS s))) (rrewF (getF xs (keyS s)))).2.2 = 1 then (xs, 1) else
    stkTail xs (keyS s) (turnF k a b (rtokF (getF xs (keyS s))) (rrewF (getF xs (keyS s)))).1 (turnF k a b (rtokF (getF xs (keyS s))) (rrewF (getF xs (keyS s)))).2.1 := by
  conv => lhs; unfold stkF
  rw [if_neg]
  rw [h1, decide_eq_false h2, h3]; exact Bool.false_ne_true
theorem keyOk_of {s : ByteArray} (h2 : ¬ (16 : Int) < (lenB (keyS s) : Int)) : KeyOk (keyS s) := ⟨keyS_ne s, by omega, keyS_is s⟩
theorem isA_of {a : Int} (h1 : decide (0 ≤ a) = true) (h2 : decide (a ≤ 1073741824) = true) : isA a = true := by unfold isA; rw [h1, h2]; rfl
theorem get_none {xs : List Value} {K : ByteArray} (h : fdF xs K = false) : getF xs K = noB := by unfold getF; rw [h]; rfl
theorem get_len {xs : List Value} (hR : RightL xs) (K : ByteArray) : lenB (getF xs K) ≤ 24 := by
  unfold getF
  split
  · rename_i h
    have h2 := fd_lt h
    have h3 := bsF_range xs K
    exact (right_vals hR).2 _ (by omega)
  · show 0 ≤ 24; omega
theorem sumB_len (s : ByteArray) (hs : lenB s ≤ 1000000) : std.slen (ByteArray.mk (Array.mk [(115 : UInt8), (47 : UInt8)])) + std.slen s ≤ 9223372036854775807 := by
  show 2 + lenB s ≤ _; omega
theorem delg_run (xs : List Value) (s : ByteArray) (a : Int) (hR : RightL xs) (hs : lenB s ≤ 1000000) (ha : -9223372036854775808 ≤ a ∧ a ≤ 9223372036854775807) : runP std (stkCon std kvF stF) 60 noL (delgP std stF) 9 Try.f9 (xs, s, a, ()) := by
  rw [delg_vc]
  have hx := right_vals hR
  have hg := get_len hR (keyS s)
  have hr := rtok_range (getF xs (keyS s))
  have bad : (eqB s noB = true ∨ (16 : Int) < (lenB (keyS s) : Int) ∨ isA a = false) → [dsl zP xs, Value.int .i64 1] = [dsl zP (stkF 1 xs s a 0).1, Value.int .i64 (stkF 1 xs s a 0).2] := fun h => by rw [stk_bad h]
  refine ⟨sumB_len s hs, fun h1 => bad (.inl h1), fun h2 => ⟨fun h3 => bad (.inr (.inl (of_decide_eq_true h3))), fun h4 => ⟨fun h5 => ⟨fun h6 => ⟨by omega, fun h7 => ?_, fun h15 => ?_⟩, fun h28 => bad (.inr (.inr ?_))⟩, fun h29 => bad (.inr (.inr ?_))⟩⟩⟩
  · have hfd : fdF xs (keyS s) = true := h7
    have h4 := of_decide_eq_false h4
    have e := stk_go (k := 1) (b := 0) (xs := xs) h2 h4 (isA_of h5 h6)
    rw [hfd] at e
    have h5 := of_decide_eq_true h5; have h6 := of_decide_eq_true h6
    refine ⟨by show lenB (getF xs (keyS s)) ≤ _; omega, fun h8 => ?_, fun h14 => ?_⟩
    · have hok : rokF (getF xs (keyS s)) = true := h8
      rw [hok] at e
      refine ⟨by show -9223372036854775808 ≤ rtokF (getF xs (keyS s)) + a ∧ rtokF (getF xs (keyS s)) + a ≤ _; omega, ⟨by show -9223372036854775808 ≤ rtokF (getF xs (keyS s)) + a ∧ rtokF (getF xs (keyS s)) + a ≤ _; omega, by show -9223372036854775808 ≤ rrewF (getF xs (keyS s)) ∧ rrewF (getF xs (keyS s)) ≤ _; omega⟩, ?_⟩
      exact impl_tail hR (keyOk_of h4) _ _ (G := [dsl zP (stkF 1 xs s a 0).1, Value.int .i64 (stkF 1 xs s a 0).2]) (by rw [e]; rfl)
    · have hok : rokF (getF xs (keyS s)) = false := h14
      rw [hok] at e
      show _ = [dsl zP (stkF 1 xs s a 0).1, Value.int .i64 (stkF 1 xs s a 0).2]
      rw [e]; rfl
  · have hfd : fdF xs (keyS s) = false := h15
    have h4 := of_decide_eq_false h4
    have e := stk_go (k := 1) (b := 0) (xs := xs) h2 h4 (isA_of h5 h6)
    rw [hfd] at e
    have h5 := of_decide_eq_true h5; have h6 := of_decide_eq_true h6
    have tl := impl_tail hR (keyOk_of h4) (rtokF (getF xs (keyS s)) + a) (rrewF (getF xs (keyS s))) (G := [dsl zP (stkF 1 xs s a 0).1, Value.int .i64 (stkF 1 xs s a 0).2]) (by rw [e]; rfl)
    have rest : (-9223372036854775808 ≤ stF.rtok (kvF.get xs (keyS s)) + a ∧ stF.rtok (kvF.get xs (keyS s)) + a ≤ 9223372036854775807) ∧ ((-9223372036854775808 ≤ stF.rtok (kvF.get xs (keyS s)) + a ∧ stF.rtok (kvF.get xs (keyS s)) + a ≤ 9223372036854775807) ∧ (-9223372036854775808 ≤ stF.rrew (kvF.get xs (keyS s)) ∧ stF.rrew (kvF.get xs (keyS s)) ≤ 9223372036854775807)) := by
      have t1 : -9223372036854775808 ≤ rtokF (getF xs (keyS s)) + a ∧ rtokF (getF xs (keyS s)) + a ≤ 9223372036854775807 := by omega
      have t2 : -9223372036854775808 ≤ rrewF (getF xs (keyS s)) ∧ rrewF (getF xs (keyS s)) ≤ 9223372036854775807 := by omega
      exact ⟨t1, t1, t2⟩
    exact ⟨by show lenB (getF xs (keyS s)) ≤ _; omega, fun _ => ⟨rest.1, rest.2, tl⟩, fun _ => ⟨rest.1, rest.2, tl⟩⟩
  · unfold isA; rw [h28]; simp
  · unfold isA; rw [h29]; rfl
theorem rwd_run (xs : List Value) (s : ByteArray) (a : Int) (hR : RightL xs) (hs : lenB s ≤ 1000000) (ha : -9223372036854775808 ≤ a ∧ a ≤ 9223372036854775807) : runP std (stkCon std kvF stF) 60 noL (rwdP std stF) 11 Try.f11 (xs, s, a, ()) := by
  rw [rwd_vc]
  have hx := right_vals hR
  have hg := get_len hR (keyS s)
  have hr := rtok_range (getF xs (keyS s))
  have bad : (eqB s noB = true ∨ (16 : Int) < (lenB (keyS s) : Int) ∨ isA a = false) → [dsl zP xs, Value.int .i64 1] = [dsl zP (stkF 2 xs s a 0).1, Value.int .i64 (stkF 2 xs s a 0).2] := fun h => by rw [stk_bad h]
  refine ⟨sumB_len s hs, fun h1 => bad (.inl h1), fun h2 => ⟨fun h3 => bad (.inr (.inl (of_decide_eq_true h3))), fun h4 => ⟨fun h5 => ⟨fun h6 => ⟨by omega, fun h7 => ?_, fun h15 => ?_⟩, fun h28 => bad (.inr (.inr ?_))⟩, fun h29 => bad (.inr (.inr ?_))⟩⟩⟩
  · have hfd : fdF xs (keyS s) = true := h7
    have h4 := of_decide_eq_false h4
    have e := stk_go (k := 2) (b := 0) (xs := xs) h2 h4 (isA_of h5 h6)
    rw [hfd] at e
    have h5 := of_decide_eq_true h5; have h6 := of_decide_eq_true h6
    refine ⟨by show lenB (getF xs (keyS s)) ≤ _; omega, fun h8 => ?_, fun h14 => ?_⟩
    · have hok : rokF (getF xs (keyS s)) = true := h8
      rw [hok] at e
      refine ⟨by show -9223372036854775808 ≤ rrewF (getF xs (keyS s)) + a ∧ rrewF (getF xs (keyS s)) + a ≤ _; omega, ⟨by show -9223372036854775808 ≤ rtokF (getF xs (keyS s)) ∧ rtokF (getF xs (keyS s)) ≤ _; omega, by show -9223372036854775808 ≤ rrewF (getF xs (keyS s)) + a ∧ rrewF (getF xs (keyS s)) + a ≤ _; omega⟩, ?_⟩
      exact impl_tail hR (keyOk_of h4) _ _ (G := [dsl zP (stkF 2 xs s a 0).1, Value.int .i64 (stkF 2 xs s a 0).2]) (by rw [e]; rfl)
    · have hok : rokF (getF xs (keyS s)) = false := h14
      rw [hok] at e
      show _ = [dsl zP (stkF 2 xs s a 0).1, Value.int .i64 (stkF 2 xs s a 0).2]
      rw [e]; rfl
  · have hfd : fdF xs (keyS s) = false := h15
    have h4 := of_decide_eq_false h4
    have e := stk_go (k := 2) (b := 0) (xs := xs) h2 h4 (isA_of h5 h6)
    rw [hfd] at e
    have e2 : [dsl zP xs, Value.int .i64 3] = [dsl zP (stkF 2 xs s a 0).1, Value.int .i64 (stkF 2 xs s a 0).2] := by rw [e]; rfl
    exact ⟨by show lenB (getF xs (keyS s)) ≤ _; omega, fun _ => e2, fun _ => e2⟩
  · unfold isA; rw [h28]; simp
  · unfold isA; rw [h29]; rfl
theorem slash_range {t a b : Int} (ht : 0 ≤ t ∧ t ≤ 1073741824) (ha : 0 ≤ a) (hab : ¬ b < a) (hb : ¬ b < 1) (hm : ¬ 1048576 < b) : 0 ≤ t * (b - a) ∧ t * (b - a) ≤ 1125899906842624 ∧ 0 ≤ Int.tdiv (t * (b - a)) b ∧ Int.tdiv (t * (b - a)) b ≤ 1125899906842624 ∧ Int.tdiv (t * (b - a)) b ≤ 1099511627775 := by
  have h0 : 0 ≤ t * (b - a) := Int.mul_nonneg ht.1 (by omega)
  have h1 : t * (b - a) ≤ t * b := Int.mul_le_mul_of_nonneg_left (by omega) ht.1
  have h2 : t * b ≤ 1073741824 * b := Int.mul_le_mul_of_nonneg_right ht.2 (by omega)
  have h3 : Int.tdiv (t * (b - a)) b = (t * (b - a)) / b := Int.tdiv_eq_ediv_of_nonneg h0
  have h4 : (t * (b - a)) / b ≤ t := by
    have : (t * (b - a)) / b ≤ (t * b) / b := Int.ediv_le_ediv (by omega) h1
    rw [Int.mul_ediv_cancel _ (by omega)] at this
    exact this
  have h5 : 0 ≤ (t * (b - a)) / b := Int.ediv_nonneg h0 (by omega)
  rw [h3]
  omega
theorem sla_run (xs : List Value) (s : ByteArray) (a b : Int) (hR : RightL xs) (hs : lenB s ≤ 1000000) (hb : -9223372036854775808 ≤ b ∧ b ≤ 9223372036854775807) : runP std (stkCon std kvF stF) 60 noL (slaP std stF) 10 Try.f10 (xs, s, a, b, ()) := by
  rw [sla_vc]
  have hx := right_vals hR
  have hg := get_len hR (keyS s)
  have hr := rtok_range (getF xs (keyS s))
  have bad : (eqB s noB = true ∨ (16 : Int) < (lenB (keyS s) : Int) ∨ isA a = false) → [dsl zP xs, Value.int .i64 1] = [dsl zP (stkF 3 xs s a b).1, Value.int .i64 (stkF 3 xs s a b).2] := fun h => by rw [stk_bad h]
  refine ⟨sumB_len s hs, fun h1 => bad (.inl h1), fun h2 => ⟨fun h3 => bad (.inr (.inl (of_decide_eq_true h3))), fun h4 => ⟨fun h5 => ⟨fun h6 => ⟨by omega, fun h7 => ?_, fun h15 => ?_⟩, fun h28 => bad (.inr (.inr ?_))⟩, fun h29 => bad (.inr (.inr ?_))⟩⟩⟩
  · have hfd : fdF xs (keyS s) = true := h7
    have h4 := of_decide_eq_false h4
    have e := stk_go (k := 3) (b := b) (xs := xs) h2 h4 (isA_of h5 h6)
    rw [hfd] at e
    have h5 := of_decide_eq_true h5; have h6 := of_decide_eq_true h6
    refine ⟨by show lenB (getF xs (keyS s)) ≤ _; omega, fun h8 => ?_, fun h14 => ?_⟩
    · have hok : rokF (getF xs (keyS s)) = true := h8
      rw [hok] at e
      have e1 : (b < 1 ∨ 1048576 < b ∨ b < a) → [dsl zP xs, Value.int .i64 1] = [dsl zP (stkF 3 xs s a b).1, Value.int .i64 (stkF 3 xs s a b).2] := fun h => by
        have ht : turnF 3 a b (rtokF (getF xs (keyS s))) (rrewF (getF xs (keyS s))) = (0, 0, 1) := by
          unfold turnF; rw [if_neg (by omega), if_neg (by omega), if_pos h]
        rw [e, ht]; rfl
      refine ⟨fun h9 => e1 (.inl (of_decide_eq_true h9)), fun h10 => ⟨fun h11 => e1 (.inr (.inl (of_decide_eq_true h11))), fun h12 => ⟨fun h13 => e1 (.inr (.inr (of_decide_eq_true h13))), fun h14 => ?_⟩⟩⟩
      have h10 := of_decide_eq_false h10; have h12 := of_decide_eq_false h12; have h14 := of_decide_eq_false h14
      obtain ⟨s1, s2, s3, s4, s5⟩ := slash_range (t := rtokF (getF xs (keyS s))) ⟨hr.1, hr.2.1⟩ h5 h14 h10 h12
      have ht : turnF 3 a b (rtokF (getF xs (keyS s))) (rrewF (getF xs (keyS s))) = (Int.tdiv (rtokF (getF xs (keyS s)) * (b - a)) b, rrewF (getF xs (keyS s)), 0) := by
        unfold turnF; rw [if_neg (by omega), if_neg (by omega), if_neg (by omega)]
      rw [ht] at e
      have m1 : -9223372036854775808 ≤ rtokF (getF xs (keyS s)) * (b - a) ∧ rtokF (getF xs (keyS s)) * (b - a) ≤ 9223372036854775807 := by omega
      refine ⟨by omega, m1, ⟨by omega, m1⟩, ⟨?_, ?_⟩, ?_⟩
      · show -9223372036854775808 ≤ Int.tdiv (rtokF (getF xs (keyS s)) * (b - a)) b ∧ Int.tdiv (rtokF (getF xs (keyS s)) * (b - a)) b ≤ 9223372036854775807
        omega
      · show -9223372036854775808 ≤ rrewF (getF xs (keyS s)) ∧ rrewF (getF xs (keyS s)) ≤ 9223372036854775807
        omega
      · exact impl_tail hR (keyOk_of h4) _ _ (G := [dsl zP (stkF 3 xs s a b).1, Value.int .i64 (stkF 3 xs s a b).2]) (by rw [e]; rfl)
    · have hok : rokF (getF xs (keyS s)) = false := h14
      rw [hok] at e
      show _ = [dsl zP (stkF 3 xs s a b).1, Value.int .i64 (stkF 3 xs s a b).2]
      rw [e]; rfl
  · have hfd : fdF xs (keyS s) = false := h15
    have h4 := of_decide_eq_false h4
    have e := stk_go (k := 3) (b := b) (xs := xs) h2 h4 (isA_of h5 h6)
    rw [hfd] at e
    have e2 : [dsl zP xs, Value.int .i64 3] = [dsl zP (stkF 3 xs s a b).1, Value.int .i64 (stkF 3 xs s a b).2] := by rw [e]; rfl
    exact ⟨by show lenB (getF xs (keyS s)) ≤ _; omega, fun _ => e2, fun _ => e2⟩
  · unfold isA; rw [h28]; simp
  · unfold isA; rw [h29]; rfl
theorem empty_iff {s : ByteArray} : eqB s noB = decide ((lenB s : Int) < 1) := by
  unfold eqB noB lenB
  cases h : s.data.toList with
  | nil => rfl
  | cons a l =>
    rw [decide_eq_false (by simp only [List.length_cons]; omega)]; rfl
theorem rstk_run (xs : List Value) (k : Int) (s : ByteArray) (a b : Int) (hR : RightL xs) (hs : lenB s ≤ 1000000) (hk : 1 ≤ k ∧ k ≤ 3) : runP std (rstkCon std kvF stF) 60 noL (rstkP std stF) 17 Try.f17 (xs, k, s, a, b, ()) := by
  rw [rstk_vc]
  have hx := right_vals hR
  have hr := rtok_range (getF xs (keyS s))
  have ho := ((right_iff xs).1 hR.1).2.1
  have hf := rfirst_range xs (keyS s)
  have hfd := fd_eq (keyS s) ho
  have hbs := bs_rfirst (keyS s) ho
  have bad : (eqB s noB = true ∨ (16 : Int) < (lenB (keyS s) : Int) ∨ isA a = false) → [dsl zP xs, Value.int .i64 1] = [dsl zP (stkF k xs s a b).1, Value.int .i64 (stkF k xs s a b).2] := fun h => by rw [stk_bad h]
  refine ⟨sumB_len s hs, fun h1 => bad (.inl (by rw [empty_iff]; exact h1)), fun h2 => ⟨fun h3 => bad (.inr (.inl (of_decide_eq_true h3))), fun h4 => ⟨fun h5 => bad (.inr (.inr ?_)), fun h6 => ⟨fun h7 => bad (.inr (.inr ?_)), fun h8 => ⟨fun h9 => absurd (of_decide_eq_true h9) (by omega), fun h10 => ⟨fun h11 => absurd (of_decide_eq_true h11) (by omega), fun h12 => ⟨by omega, ?_⟩⟩⟩⟩⟩⟩⟩
  · have := of_decide_eq_true h5
    unfold isA; rw [decide_eq_false (by omega)]; rfl
  · have := of_decide_eq_true h7
    unfold isA; rw [decide_eq_false (show ¬ a ≤ 1073741824 by omega)]; simp
  have h4 := of_decide_eq_false h4
  have h6 := of_decide_eq_false h6
  have h8 := of_decide_eq_false h8
  have e := stk_go (k := k) (b := b) (xs := xs) (s := s) (a := a) (by rw [empty_iff]; exact h2) h4 (isA_of (decide_eq_true (by omega)) (decide_eq_true (by omega)))
  have hK := keyOk_of h4
  have unmet : fdF xs (keyS s) = false → (((k == 1) = true → ((-9223372036854775808 ≤ 0 + a ∧ 0 + a ≤ 9223372036854775807) ∧ ((-9223372036854775808 ≤ 0 + a ∧ 0 + a ≤ 9223372036854775807) ∧ ((-9223372036854775808 : Int) ≤ 0 ∧ (0 : Int) ≤ 9223372036854775807))) ∧ stkF k xs s a b = stkTail xs (keyS s) (0 + a) 0) ∧ ((k == 1) = false → stkF k xs s a b = (xs, 3))) := fun h => by
    rw [h] at e
    have hg := get_none h
    obtain ⟨g1, g2, g3⟩ := rok_none
    refine ⟨fun h1 => ⟨by omega, ?_⟩, fun h1 => ?_⟩
    · have h1 : k = 1 := by simpa using h1
      rw [e, hg, g2, g3, h1]; rfl
    · have h1 : ¬ k = 1 := by simpa using h1
      rw [e, decide_eq_false h1]; rfl
  refine ⟨fun h13 => ?_, fun h66 => ?_⟩
  · have h13 : decide (rfirstF xs (keyS s) < (xs.length : Int)) = true := h13
    have h13' := of_decide_eq_true h13
    have hidx : 0 ≤ rfirstF xs (keyS s) ∧ rfirstF xs (keyS s) < (xs.length : Int) := ⟨hf.1, h13'⟩
    refine ⟨hidx, fun h14 => ?_, fun h49 => ?_⟩
    · have hmet : fdF xs (keyS s) = true := by rw [hfd, h13]; exact h14
      have hget : vP xs (rfirstF xs (keyS s)).toNat = getF xs (keyS s) := by unfold getF; rw [hmet, hbs]; rfl
      have hlen := hx.2 (rfirstF xs (keyS s)).toNat (by omega)
      rw [hmet] at e
      have hget' : vP xs (kvF.rfirst xs (keyS s)).toNat = getF xs (keyS s) := hget
      refine ⟨hidx, by show lenB (vP xs (rfirstF xs (keyS s)).toNat) ≤ 4000000; omega, fun h15 => ?_, fun h48 => ?_⟩
      · have hok : rokF (getF xs (keyS s)) = true := by rw [← hget]; exact h15
        rw [hok] at e
        have eT : stF.qtok (vP xs (kvF.rfirst xs (keyS s)).toNat) = rtokF (getF xs (keyS s)) := by rw [hget']; rfl
        have eR : stF.qrew (vP xs (kvF.rfirst xs (keyS s)).toNat) = rrewF (getF xs (keyS s)) := by rw [hget']; rfl
        have go1 : k = 1 → stkF k xs s a b = stkTail xs (keyS s) (rtokF (getF xs (keyS s)) + a) (rrewF (getF xs (keyS s))) := fun h => by rw [e, h]; rfl
        have go2 : k = 2 → stkF k xs s a b = stkTail xs (keyS s) (rtokF (getF xs (keyS s))) (rrewF (getF xs (keyS s)) + a) := fun h => by rw [e, h]; rfl
        have go3 : k = 3 → (b < 1 ∨ 1048576 < b ∨ b < a) → stkF k xs s a b = (xs, 1) := fun h hc => by
          have ht : turnF k a b (rtokF (getF xs (keyS s))) (rrewF (getF xs (keyS s))) = (0, 0, 1) := by
            unfold turnF; rw [if_neg (by omega), if_neg (by omega), if_pos hc]
          rw [e, ht, h]; rfl
        have go4 : k = 3 → ¬ (b < 1 ∨ 1048576 < b ∨ b < a) → stkF k xs s a b = stkTail xs (keyS s) (Int.tdiv (rtokF (getF xs (keyS s)) * (b - a)) b) (rrewF (getF xs (keyS s))) := fun h hc => by
          have ht : turnF k a b (rtokF (getF xs (keyS s))) (rrewF (getF xs (keyS s))) = (Int.tdiv (rtokF (getF xs (keyS s)) * (b - a)) b, rrewF (getF xs (keyS s)), 0) := by
            unfold turnF; rw [if_neg (by omega), if_neg (by omega), if_neg hc]
          rw [e, ht, h]; rfl
        have tl := fun (t r : Int) (ht : 0 ≤ t ∧ t ≤ 1099511627775) (hr' : 0 ≤ r ∧ r ≤ 1099511627775) (h : stkF k xs s a b = stkTail xs (keyS s) t r) => ref_tail hR hK ht hr' (G := [dsl zP (stkF k xs s a b).1, Value.int .i64 (stkF k xs s a b).2]) (by rw [h])
        have r1 : -9223372036854775808 ≤ rtokF (getF xs (keyS s)) + a ∧ rtokF (getF xs (keyS s)) + a ≤ 9223372036854775807 := by omega
        have r2 : -9223372036854775808 ≤ rrewF (getF xs (keyS s)) ∧ rrewF (getF xs (keyS s)) ≤ 9223372036854775807 := by omega
        have r3 : -9223372036854775808 ≤ rrewF (getF xs (keyS s)) + a ∧ rrewF (getF xs (keyS s)) + a ≤ 9223372036854775807 := by omega
        have r4 : -9223372036854775808 ≤ rtokF (getF xs (keyS s)) ∧ rtokF (getF xs (keyS s)) ≤ 9223372036854775807 := by omega
        have eK : (ByteArray.mk (Array.mk [(115 : UInt8), (47 : UInt8)])) ++ s = keyS s := rfl
        rw [eK, eT, eR]
        refine ⟨fun h16 => ⟨r1, ⟨r1, r2⟩, tl _ _ (by omega) (by omega) (go1 (by simpa using h16))⟩, fun h22 => ⟨fun h23 => ⟨r3, ⟨r4, r3⟩, tl _ _ (by omega) (by omega) (go2 (by simpa using h23))⟩, fun h29 => ⟨fun h30 => ?_, fun h42 => ?_⟩⟩⟩
        · have h30 : k = 3 := by simpa using h30
          have b3 : (b < 1 ∨ 1048576 < b ∨ b < a) → [dsl zP xs, Value.int .i64 1] = [dsl zP (stkF k xs s a b).1, Value.int .i64 (stkF k xs s a b).2] := fun h => by rw [go3 h30 h]
          refine ⟨fun h31 => b3 (.inl (of_decide_eq_true h31)), fun h32 => ⟨fun h33 => b3 (.inr (.inl (of_decide_eq_true h33))), fun h34 => ⟨fun h35 => b3 (.inr (.inr (of_decide_eq_true h35))), fun h36 => ?_⟩⟩⟩
          have h32 := of_decide_eq_false h32; have h34 := of_decide_eq_false h34; have h36 := of_decide_eq_false h36
          obtain ⟨s1, s2, s3, s4, s5⟩ := slash_range (t := rtokF (getF xs (keyS s))) ⟨hr.1, hr.2.1⟩ (by omega) h36 h32 h34
          have m1 : -9223372036854775808 ≤ rtokF (getF xs (keyS s)) * (b - a) ∧ rtokF (getF xs (keyS s)) * (b - a) ≤ 9223372036854775807 := by omega
          have m2 : -9223372036854775808 ≤ std.quo (rtokF (getF xs (keyS s)) * (b - a)) b ∧ std.quo (rtokF (getF xs (keyS s)) * (b - a)) b ≤ 9223372036854775807 := by
            show -9223372036854775808 ≤ Int.tdiv (rtokF (getF xs (keyS s)) * (b - a)) b ∧ Int.tdiv (rtokF (getF xs (keyS s)) * (b - a)) b ≤ 9223372036854775807
            omega
          exact ⟨by omega, m1, ⟨by omega, m1⟩, ⟨m2, r2⟩, tl _ _ ⟨s3, s5⟩ (by omega) (go4 h30 (by omega))⟩
        · exfalso
          have q1 : ¬ k = 1 := by simpa using h22
          have q2 : ¬ k = 2 := by simpa using h29
          have q3 : ¬ k = 3 := by simpa using h42
          omega
      · have hok : rokF (getF xs (keyS s)) = false := by rw [← hget]; exact h48
        rw [hok] at e
        show _ = [dsl zP (stkF k xs s a b).1, Value.int .i64 (stkF k xs s a b).2]
        rw [e]; rfl
    · have hun : fdF xs (keyS s) = false := by rw [hfd, h13]; exact h49
      obtain ⟨u1, u2⟩ := unmet hun
      have u3 : (k == 1) = false → [dsl zP xs, Value.int .i64 3] = [dsl zP (stkF k xs s a b).1, Value.int .i64 (stkF k xs s a b).2] := fun h => by rw [u2 h]
      refine ⟨fun h50 => ⟨(u1 h50).1.1, (u1 h50).1.2, ref_tail hR hK (t := 0 + a) (r := 0) (by omega) (by omega) (G := [dsl zP (stkF k xs s a b).1, Value.int .i64 (stkF k xs s a b).2]) (by rw [(u1 h50).2])⟩, fun h56 => ⟨fun _ => u3 h56, fun h58 => ⟨fun _ => u3 h56, fun h60 => ?_⟩⟩⟩
      exfalso
      have q1 : ¬ k = 1 := by simpa using h56
      have q2 : ¬ k = 2 := by simpa using h58
      have q3 : ¬ k = 3 := by simpa using h60
      omega
  · have h66 : decide (rfirstF xs (keyS s) < (xs.length : Int)) = false := h66
    have hun : fdF xs (keyS s) = false := by rw [hfd, h66]; rfl
    obtain ⟨u1, u2⟩ := unmet hun
    have u3 : (k == 1) = false → [dsl zP xs, Value.int .i64 3] = [dsl zP (stkF k xs s a b).1, Value.int .i64 (stkF k xs s a b).2] := fun h => by rw [u2 h]
    refine ⟨fun h50 => ⟨(u1 h50).1.1, (u1 h50).1.2, ref_tail hR hK (t := 0 + a) (r := 0) (by omega) (by omega) (G := [dsl zP (stkF k xs s a b).1, Value.int .i64 (stkF k xs s a b).2]) (by rw [(u1 h50).2])⟩, fun h56 => ⟨fun _ => u3 h56, fun h58 => ⟨fun _ => u3 h56, fun h60 => ?_⟩⟩⟩
    exfalso
    have q1 : ¬ k = 1 := by simpa using h56
    have q2 : ¬ k = 2 := by simpa using h58
    have q3 : ¬ k = 3 := by simpa using h60
    omega
theorem stkCon_ok : ConOk Try.prog (stkCon std kvF stF) := conL_ok fun x hx => by
  simp only [List.mem_cons, List.not_mem_nil, or_false] at hx
  rcases hx with rfl | rfl | rfl | rfl | rfl
  · exact pcon_ok get_ok
  · exact pcon_ok set_ok
  · exact pcon_ok rd_ok
  · exact pcon_ok rcd_ok
  · exact pcon_ok bck_ok
theorem rstkCon_ok : ConOk Try.prog (rstkCon std kvF stF) := conL_ok fun x hx => by
  simp only [List.mem_cons, List.not_mem_nil, or_false] at hx
  rcases hx with rfl | rfl | rfl | rfl | rfl
  · exact pcon_ok rfirst_ok
  · exact pcon_ok rset_ok
  · exact pcon_ok qrd_ok
  · exact pcon_ok rrcd_ok
  · exact pcon_ok rbck_ok
theorem delg_ok : PFOk Try.prog 9 (delgP std stF) :=
  pf_ok (LS := fun _ => noL) Try.progOk stkCon_ok (inCallF_ok 60) (delgP std stF) Try.func9 (show _ = some (bodyS Try.prog 9) by kernel_rfl) fun d hd => delg_run d.1 d.2.1 d.2.2.1 hd.1 hd.2.1 hd.2.2.1
theorem rwd_ok : PFOk Try.prog 11 (rwdP std stF) :=
  pf_ok (LS := fun _ => noL) Try.progOk stkCon_ok (inCallF_ok 60) (rwdP std stF) Try.func11 (show _ = some (bodyS Try.prog 11) by kernel_rfl) fun d hd => rwd_run d.1 d.2.1 d.2.2.1 hd.1 hd.2.1 hd.2.2.1
theorem sla_ok : PFOk Try.prog 10 (slaP std stF) :=
  pf_ok (LS := fun _ => noL) Try.progOk stkCon_ok (inCallF_ok 60) (slaP std stF) Try.func10 (show _ = some (bodyS Try.prog 10) by kernel_rfl) fun d hd => sla_run d.1 d.2.1 d.2.2.1 d.2.2.2.1 hd.1 hd.2.1 hd.2.2.2
theorem rstk_ok : PFOk Try.prog 17 (rstkP std stF) :=
  pf_ok (LS := fun _ => noL) Try.progOk rstkCon_ok (inCallF_ok 60) (rstkP std stF) Try.func17 (show _ = some (bodyS Try.prog 17) by kernel_rfl) fun d hd => rstk_run d.1 d.2.1 d.2.2.1 d.2.2.2.1 d.2.2.2.2.1 hd.1.1 hd.1.2.1 hd.2
end Go.Proofs.Ytecdmdglkkeidaa
end
section
namespace Go.Proofs.Ytecdmdglkkeidaa
open Go.RowKit Go.Abs Go
noncomputable section
variable (S : Sy) (g : KvF) (t : StF)
def intsOkS (d : List Value) : Prop := ∀ i, S.nlt i (S.len d) → inI S (S.dint (S.get zI d i))
def pickP : PF := pf (.cons cIs (.cons cI64 .nil)) (fun d => intsOkS S d.1 ∧ S.ile 0 d.2.1 ∧ S.ile d.2.1 1000000) [zI] fun d => [mk (.int .i64 (t.pick d.1 d.2.1))]
def pickCon : Con := conL [(15, withinC S)]
structure SpL where
  l : List Value
  o : List Value
  i : Int
def spSh : Shape := ⟨slotsOf 181 [(1, .one (.zero (.deep zI))), (2, .one (.zero (.deep zI))), (3, .one (.zero (.deep zI))), (4, .one (.zero (.deep zI))), (5, .one (.zero .hole)), (13, .one (.zero (.deep zP))), (14, .one (.zero (.deep zP))), (15, .one (.zero .hole))], []⟩
def spLs (ks ms qs bs : List Value) (raw : ByteArray) (I : SpL → Prop) (m : SpL → Nat) : Loops := loop1 { D := SpL, sh := spSh, rho := fun _ => [], fills := fun d => [.dl ks, .dl ms, .dl qs, .dl bs, .val (.string raw), .dl d.l, .dl d.o, .val (.int .i64 d.i)], I := I, m := m } 0
def spCon : Con := conL [(14, pcon (pairsP S g)), (15, pcon (withinP S g)), (16, pcon (pickP S t)), (9, pcon (delgP S t)), (11, pcon (rwdP S t)), (10, pcon (slaP S t)), (17, pcon (rstkP S t)), (12, pcon (bckP S t)), (18, pcon (rbckP S t)), (19, pcon (sameP S g)), (20, pcon (rdP S t)), (21, pcon (qrdP S t)), (3, closedC (.bool true))]
def spP : PF := pf (.cons cIs (.cons cIs (.cons cIs (.cons cIs (.cons cIs (.cons cS .nil)))))) (fun _ => True) [.bool false] fun _ => [.bool true]
structure SoA where
  l : List Value
  n : Int
  i : Int
structure SoB where
  l : List Value
  x : Int
  y : Int
  m : Int
  nl : List Value
  f : Int
  g : Int
  v : List Value
  h : Int
  k : Int
  ok : Bool
  no : Bool
  c : Int
  i : Int
end
end Go.Proofs.Ytecdmdglkkeidaa
end
