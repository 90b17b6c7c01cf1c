/-
  WHOLE NUMBERS AS FLOATS: below 2^53 they come back, they are told apart, their sums are whole.
-/
import Derived.Test.YtddejgkfgnokgaaAbs30
namespace Go.Abs
open Go Ieee

theorem log2_scale {n : Nat} (hn : n ≠ 0) (K : Nat) : (n * 2 ^ K).log2 = n.log2 + K := by
  have h0 : n * 2 ^ K ≠ 0 := Nat.mul_ne_zero hn (Nat.pos_iff_ne_zero.1 (Nat.two_pow_pos K))
  rw [Nat.log2_eq_iff h0]
  have h1 := Nat.log2_self_le hn
  have h2 := Nat.lt_log2_self (n := n)
  constructor
  · rw [Nat.pow_add]; exact Nat.mul_le_mul_right _ h1
  · rw [show n.log2 + K + 1 = n.log2 + 1 + K by omega, Nat.pow_add]; exact Nat.mul_lt_mul_of_pos_right h2 (Nat.two_pow_pos K)
theorem shl_eq (m k : Nat) : m <<< k = m * 2 ^ k := Nat.shiftLeft_eq m k
/-- What is a multiple of what is dropped is cut exactly. -/
theorem cut_even {a k : Nat} (ha : a ≠ 0) : Toward.even.cut false (a * 2 ^ k) k = a := by
  unfold Toward.cut
  have h1 : min k ((a * 2 ^ k).log2 + 2) = k := by rw [log2_scale ha]; omega
  rw [h1, shl_eq, Nat.one_mul]
  have hp := Nat.two_pow_pos k
  simp only [Nat.mul_mod_left, Nat.mul_div_cancel _ hp, Nat.mul_zero]
  have h2 : (decide (2 ^ k < 0) || (2 ^ k == 0) && a % 2 == 1) = false := by
    rw [show decide (2 ^ k < 0) = false from by simp, show (2 ^ k == 0) = false from by simp]
    rfl
  rw [h2]; rfl
theorem cut_zero {a k : Nat} (ha : a ≠ 0) : Toward.zero.cut false (a * 2 ^ k) k = a := by
  unfold Toward.cut
  have h1 : min k ((a * 2 ^ k).log2 + 2) = k := by rw [log2_scale ha]; omega
  rw [h1, shl_eq, Nat.one_mul]
  have hp := Nat.two_pow_pos k
  simp only [Nat.mul_div_cancel _ hp]
  rfl

/-- The word of a whole number. -/
def wordOf (n : Nat) : Nat := if n = 0 then 0 else (n.log2 + 1022) * 4503599627370496 + n * 2 ^ (52 - n.log2)
theorem kept_bounds {n : Nat} (hn : n ≠ 0) (h : n < 9007199254740992) : n.log2 ≤ 52 ∧ 4503599627370496 ≤ n * 2 ^ (52 - n.log2) ∧ n * 2 ^ (52 - n.log2) < 9007199254740992 := by
  have hl : n.log2 < 53 := (Nat.log2_lt hn).2 (by rw [show (2 : Nat) ^ 53 = 9007199254740992 from rfl]; exact h)
  have h1 := Nat.log2_self_le hn
  have h2 := Nat.lt_log2_self (n := n)
  refine ⟨Nat.le_of_lt_succ hl, ?_, ?_⟩
  · have := Nat.mul_le_mul_right (2 ^ (52 - n.log2)) h1
    rw [← Nat.pow_add, Nat.add_sub_cancel' (Nat.le_of_lt_succ hl), show (2 : Nat) ^ 52 = 4503599627370496 from rfl] at this
    exact this
  · have := Nat.mul_lt_mul_of_pos_right h2 (Nat.two_pow_pos (52 - n.log2))
    rw [← Nat.pow_add, show n.log2 + 1 + (52 - n.log2) = 53 from by clear h1 h2 this; omega, show (2 : Nat) ^ 53 = 9007199254740992 from rfl] at this
    exact this
theorem last_eq (K L : Nat) (hL : L ≤ 52) : max (-(K : Int) + ((L + K : Nat) : Int) - 52) (-1074) = (L : Int) - 52 := by omega
theorem sh_le (K L : Nat) (hL : L ≤ 52) (hc : K ≤ 52 - L) : (-(K : Int) - ((L : Int) - 52)).toNat = 52 - L - K ∧ (((L : Int) - 52) - -(K : Int)).toNat = 0 := by omega
theorem sh_gt (K L : Nat) (hL : L ≤ 52) (hc : ¬ K ≤ 52 - L) : (-(K : Int) - ((L : Int) - 52)).toNat = 0 ∧ (((L : Int) - 52) - -(K : Int)).toNat = K - (52 - L) := by omega
theorem rung_eq (L : Nat) : (((L : Int) - 52) - -1074).toNat = L + 1022 := by omega
theorem rung_le {L x : Nat} (hL : L ≤ 52) (hx : x < 9007199254740992) : (L + 1022) * 4503599627370496 + x ≤ 2047 * 4503599627370496 := by omega
theorem kept_eq {n K : Nat} (hn : n ≠ 0) (hl : n.log2 ≤ 52) : Toward.even.cut false ((n * 2 ^ K) <<< (-(K : Int) - ((n.log2 : Int) - 52)).toNat) (((n.log2 : Int) - 52) - -(K : Int)).toNat = n * 2 ^ (52 - n.log2) := by
  have hx : n * 2 ^ (52 - n.log2) ≠ 0 := Nat.mul_ne_zero hn (Nat.pos_iff_ne_zero.1 (Nat.two_pow_pos _))
  by_cases hc : K ≤ 52 - n.log2
  · obtain ⟨e1, e2⟩ := sh_le K n.log2 hl hc
    rw [e1, e2, shl_eq, Nat.mul_assoc, ← Nat.pow_add, Nat.add_sub_cancel' hc]
    have := cut_even (a := n * 2 ^ (52 - n.log2)) (k := 0) hx
    rw [Nat.pow_zero, Nat.mul_one] at this
    exact this
  · obtain ⟨e1, e2⟩ := sh_gt K n.log2 hl hc
    rw [e1, e2, shl_eq, Nat.pow_zero, Nat.mul_one]
    have := cut_even (a := n * 2 ^ (52 - n.log2)) (k := K - (52 - n.log2)) hx
    rw [Nat.mul_assoc, ← Nat.pow_add, Nat.add_sub_cancel' (Nat.le_of_not_le hc)] at this
    exact this
theorem word_pos (f : Format) (r : Nat) : f.word false r = r := rfl
theorem dbl_binade : Ieee.double.binade = 4503599627370496 := by decide
theorem dbl_inf : Ieee.double.infRung = 2047 * 4503599627370496 := by decide
theorem dbl_sign : Ieee.double.signWeight = 9223372036854775808 := by decide
theorem dbl_place : Ieee.double.leastPlace = -1074 := by decide
theorem dbl_frac : (Ieee.double.fractionBits : Int) = 52 := rfl
theorem ns0 : Ieee.double.nearest false 0 0 = 0 := by
  unfold Format.nearest
  rw [if_pos rfl, word_pos]
theorem ns1 {n : Nat} (K : Nat) (h0 : n * 2 ^ K ≠ 0) (f : Format) (p : Int) : f.nearest false (n * 2 ^ K) p = f.word false (min ((max (p + (n * 2 ^ K).log2 - f.fractionBits) f.leastPlace - f.leastPlace).toNat * f.binade + Toward.even.cut false ((n * 2 ^ K) <<< (p - (max (p + (n * 2 ^ K).log2 - f.fractionBits) f.leastPlace)).toNat) ((max (p + (n * 2 ^ K).log2 - f.fractionBits) f.leastPlace) - p).toNat) f.infRung) := by
  unfold Format.nearest
  rw [if_neg h0]
theorem ns2 {n : Nat} (h : n < 9007199254740992) (hn : n ≠ 0) (K : Nat) (h0 : n * 2 ^ K ≠ 0) : Ieee.double.nearest false (n * 2 ^ K) (-(K : Int)) = (n.log2 + 1022) * 4503599627370496 + n * 2 ^ (52 - n.log2) := by
  obtain ⟨hl, _, hk2⟩ := kept_bounds hn h
  rw [ns1 K h0, dbl_place, dbl_frac, dbl_binade, dbl_inf, log2_scale hn, word_pos, last_eq K n.log2 hl, kept_eq hn hl, rung_eq]
  exact Nat.min_eq_left (rung_le hl hk2)
theorem nearest_scale {n : Nat} (h : n < 9007199254740992) (K : Nat) : Ieee.double.nearest false (n * 2 ^ K) (-(K : Int)) = wordOf n := by
  unfold wordOf
  by_cases hn : n = 0
  · subst hn
    rw [if_pos rfl, Nat.zero_mul]
    unfold Format.nearest
    rw [if_pos rfl, word_pos]
  · rw [if_neg hn]
    exact ns2 h hn K (Nat.mul_ne_zero hn (Nat.pos_iff_ne_zero.1 (Nat.two_pow_pos K)))
theorem fof_word {n : Nat} (h : n < 9007199254740992) : std.fof (n : Int) = wordOf n := by
  show Ieee.double.nearest (decide ((n : Int) < 0)) (n : Int).natAbs 0 = _
  have h1 : decide ((n : Int) < 0) = false := by simp
  rw [h1, Int.natAbs_natCast]
  have := nearest_scale h 0
  rw [Nat.pow_zero, Nat.mul_one] at this
  exact this
/-- The word of a whole number stands for it. -/
theorem read_parts {L x : Nat} (hL : L ≤ 52) (h1 : 4503599627370496 ≤ x) (h2 : x < 9007199254740992) : Ieee.double.read ((L + 1022) * 4503599627370496 + x) = .number false x (-((52 - L : Nat) : Int)) := by
  unfold Format.read
  simp only [dbl_sign, dbl_binade, dbl_inf, dbl_place]
  have hlt : (L + 1022) * 4503599627370496 + x < 9223372036854775808 := by omega
  have e1 : ((L + 1022) * 4503599627370496 + x) / 9223372036854775808 = 0 := Nat.div_eq_of_lt hlt
  have e2 : ((L + 1022) * 4503599627370496 + x) % 9223372036854775808 = (L + 1022) * 4503599627370496 + x := Nat.mod_eq_of_lt hlt
  rw [e1, e2, if_neg (by omega), if_pos (by omega)]
  have e3 : ((L + 1022) * 4503599627370496 + x) % 4503599627370496 = x - 4503599627370496 := by omega
  have e4 : ((L + 1022) * 4503599627370496 + x) / 4503599627370496 = L + 1023 := by omega
  have e5 : 4503599627370496 + (x - 4503599627370496) = x := by omega
  have e6 : (-1074 + ((L + 1023 - 1 : Nat) : Int)) = -((52 - L : Nat) : Int) := by omega
  rw [e3, e4, e5, e6]
  rfl
theorem read_word {n : Nat} (h : n < 9007199254740992) : ∃ k : Nat, Ieee.double.read (wordOf n) = .number false (n * 2 ^ k) (-(k : Int)) := by
  unfold wordOf
  by_cases hn : n = 0
  · subst hn
    rw [if_pos rfl]
    obtain ⟨k, hk⟩ : ∃ k : Nat, k = 1074 := ⟨_, rfl⟩
    refine ⟨k, ?_⟩
    rw [Nat.zero_mul, hk]
    unfold Format.read
    simp only [dbl_place, dbl_sign, dbl_binade, Nat.zero_mod, Nat.zero_div]
    rw [if_pos (by omega)]
    rfl
  · rw [if_neg hn]
    obtain ⟨hl, hk1, hk2⟩ := kept_bounds hn h
    exact ⟨52 - n.log2, read_parts hl hk1 hk2⟩
theorem signed_scale (n a b : Nat) (h : a ≤ b) : signed false (n * 2 ^ a) (-(a : Int) - -(b : Int)).toNat = ((n * 2 ^ b : Nat) : Int) := by
  have e : (-(a : Int) - -(b : Int)).toNat = b - a := by omega
  unfold signed
  rw [e, shl_eq, Nat.mul_assoc, ← Nat.pow_add, show a + (b - a) = b by omega]
  rfl
theorem order_word {m n : Nat} (hm : m < 9007199254740992) (hn : n < 9007199254740992) : ∃ k : Nat, Ieee.double.order (wordOf m) (wordOf n) = some (compare ((m * 2 ^ k : Nat) : Int) ((n * 2 ^ k : Nat) : Int)) := by
  obtain ⟨a, ha⟩ := read_word hm
  obtain ⟨b, hb⟩ := read_word hn
  refine ⟨max a b, ?_⟩
  unfold Format.order
  rw [ha, hb]
  show some (compare (signed false (m * 2 ^ a) (-(a : Int) - min (-(a : Int)) (-(b : Int))).toNat) (signed false (n * 2 ^ b) (-(b : Int) - min (-(a : Int)) (-(b : Int))).toNat)) = _
  have e : min (-(a : Int)) (-(b : Int)) = -((max a b : Nat) : Int) := by omega
  rw [e, signed_scale m a (max a b) (Nat.le_max_left a b), signed_scale n b (max a b) (Nat.le_max_right a b)]
theorem feq_fof {m n : Int} (hm : 0 ≤ m ∧ m < 9007199254740992) (hn : 0 ≤ n ∧ n < 9007199254740992) : std.feq (std.fof m) (std.fof n) = (m == n) := by
  obtain ⟨a, rfl⟩ := Int.eq_ofNat_of_zero_le hm.1
  obtain ⟨b, rfl⟩ := Int.eq_ofNat_of_zero_le hn.1
  have ha : a < 9007199254740992 := by omega
  have hb : b < 9007199254740992 := by omega
  rw [fof_word ha, fof_word hb]
  obtain ⟨k, hk⟩ := order_word ha hb
  show (Ieee.double.order (wordOf a) (wordOf b) == some .eq) = _
  rw [hk]
  have hp := Nat.two_pow_pos k
  by_cases e : a = b
  · subst e
    rw [Int.compare_eq_eq.2 rfl]
    simp
  · have h1 : ¬ a * 2 ^ k = b * 2 ^ k := fun h => e (Nat.eq_of_mul_eq_mul_right hp h)
    have h2 : compare ((a * 2 ^ k : Nat) : Int) ((b * 2 ^ k : Nat) : Int) ≠ .eq := fun h => h1 (by have := Int.compare_eq_eq.1 h; omega)
    have h3 : ((a : Int) == (b : Int)) = false := by simp; omega
    rw [h3]
    simpa using h2
theorem fge_fof {m n : Int} (hm : 0 ≤ m ∧ m < 9007199254740992) (hn : 0 ≤ n ∧ n < 9007199254740992) : std.fge (std.fof m) (std.fof n) = decide (n ≤ m) := by
  obtain ⟨a, rfl⟩ := Int.eq_ofNat_of_zero_le hm.1
  obtain ⟨b, rfl⟩ := Int.eq_ofNat_of_zero_le hn.1
  have ha : a < 9007199254740992 := by omega
  have hb : b < 9007199254740992 := by omega
  rw [fof_word ha, fof_word hb]
  obtain ⟨k, hk⟩ := order_word ha hb
  show (Ieee.double.order (wordOf a) (wordOf b) == some .gt || Ieee.double.order (wordOf a) (wordOf b) == some .eq) = _
  rw [hk]
  have hp := Nat.two_pow_pos k
  by_cases e : b ≤ a
  · have h1 : b * 2 ^ k ≤ a * 2 ^ k := Nat.mul_le_mul_right _ e
    rw [decide_eq_true (by omega : (b : Int) ≤ (a : Int))]
    by_cases h2 : b * 2 ^ k = a * 2 ^ k
    · rw [h2, Int.compare_eq_eq.2 rfl]; rfl
    · rw [Int.compare_eq_gt.2 (by omega)]; rfl
  · have h1 : a * 2 ^ k < b * 2 ^ k := Nat.mul_lt_mul_of_pos_right (by omega) hp
    rw [decide_eq_false (by omega : ¬ (b : Int) ≤ (a : Int)), Int.compare_eq_lt.2 (by omega)]
    rfl
theorem toInt_word {n : Nat} (h : n < 9007199254740992) : (Ieee.double.read (wordOf n)).toInt .zero = some (n : Int) := by
  obtain ⟨k, hk⟩ := read_word h
  rw [hk]
  unfold Datum.toInt Datum.integral
  simp only
  have e1 : (-(k : Int)).toNat = 0 := by omega
  have e2 : (- -(k : Int)).toNat = k := by omega
  rw [e1, e2, shl_eq, Nat.pow_zero, Nat.mul_one]
  by_cases hn : n = 0
  · subst hn
    rw [Nat.zero_mul]
    have : Toward.zero.cut false 0 k = 0 := by unfold Toward.cut; simp
    rw [this]; rfl
  · rw [cut_zero hn]
    unfold signed
    rw [shl_eq, Nat.pow_zero, Nat.mul_one]; rfl
theorem fint_fof {n : Int} (h : 0 ≤ n ∧ n < 9007199254740992) : std.fint (std.fof n) = n := by
  obtain ⟨a, rfl⟩ := Int.eq_ofNat_of_zero_le h.1
  have ha : a < 9007199254740992 := by omega
  rw [fof_word ha]
  show ((Ieee.double.read (wordOf a)).toInt .zero).getD 0 = _
  rw [toInt_word ha]; rfl
theorem fintOk_fof {n : Int} (h : 0 ≤ n ∧ n < 9007199254740992) : std.fintOk (std.fof n) := by
  obtain ⟨a, rfl⟩ := Int.eq_ofNat_of_zero_le h.1
  have ha : a < 9007199254740992 := by omega
  rw [fof_word ha]
  show (Ieee.double.read (wordOf a)).toInt .zero = some (((Ieee.double.read (wordOf a)).toInt .zero).getD 0) ∧ _ ≤ ((Ieee.double.read (wordOf a)).toInt .zero).getD 0 ∧ ((Ieee.double.read (wordOf a)).toInt .zero).getD 0 ≤ _
  rw [toInt_word ha]
  exact ⟨rfl, by show _ ≤ (a : Int); omega, by show (a : Int) ≤ _; omega⟩
theorem add_word {m n : Nat} (h : m + n < 9007199254740992) : Ieee.double.add (wordOf m) (wordOf n) = some (wordOf (m + n)) := by
  obtain ⟨a, ha⟩ := read_word (show m < 9007199254740992 by omega)
  obtain ⟨b, hb⟩ := read_word (show n < 9007199254740992 by omega)
  unfold Format.add
  rw [ha, hb]
  have e : min (-(a : Int)) (-(b : Int)) = -((max a b : Nat) : Int) := by omega
  have ht : signed false (m * 2 ^ a) (-(a : Int) - min (-(a : Int)) (-(b : Int))).toNat + signed false (n * 2 ^ b) (-(b : Int) - min (-(a : Int)) (-(b : Int))).toNat = (((m + n) * 2 ^ (max a b) : Nat) : Int) := by
    rw [e, signed_scale m a (max a b) (Nat.le_max_left a b), signed_scale n b (max a b) (Nat.le_max_right a b), Nat.add_mul]
    omega
  unfold Datum.sum
  simp only [ht]
  have hneg : (if (((m + n) * 2 ^ (max a b) : Nat) : Int) = 0 then (false && false) else decide ((((m + n) * 2 ^ (max a b) : Nat) : Int) < 0)) = false := by
    split
    · rfl
    · simp only [decide_eq_false_iff_not]; omega
  rw [hneg, e, Int.natAbs_natCast, Option.map_some]
  show some (Ieee.double.nearest false ((m + n) * 2 ^ (max a b)) (-((max a b : Nat) : Int))) = _
  rw [nearest_scale h]
theorem fadd_fof {m n : Int} (hm : 0 ≤ m) (hn : 0 ≤ n) (h : m + n < 9007199254740992) : std.fadd (std.fof m) (std.fof n) = std.fof (m + n) := by
  obtain ⟨a, rfl⟩ := Int.eq_ofNat_of_zero_le hm
  obtain ⟨b, rfl⟩ := Int.eq_ofNat_of_zero_le hn
  have hab : a + b < 9007199254740992 := by omega
  rw [fof_word (show a < 9007199254740992 by omega), fof_word (show b < 9007199254740992 by omega), show (a : Int) + (b : Int) = ((a + b : Nat) : Int) by omega, fof_word hab]
  show (Ieee.double.add (wordOf a) (wordOf b)).getD 0 = _
  rw [add_word hab]; rfl
theorem faddOk_fof {m n : Int} (hm : 0 ≤ m) (hn : 0 ≤ n) (h : m + n < 9007199254740992) : std.faddOk (std.fof m) (std.fof n) := by
  obtain ⟨a, rfl⟩ := Int.eq_ofNat_of_zero_le hm
  obtain ⟨b, rfl⟩ := Int.eq_ofNat_of_zero_le hn
  have hab : a + b < 9007199254740992 := by omega
  rw [fof_word (show a < 9007199254740992 by omega), fof_word (show b < 9007199254740992 by omega)]
  show ((Ieee.double.add (wordOf a) (wordOf b)).isSome : Bool) = true
  rw [add_word hab]; rfl
theorem word_fof {n : Nat} (h : n < 9007199254740992) : wordOf n = std.fof (n : Int) := (fof_word h).symm
end Go.Abs
