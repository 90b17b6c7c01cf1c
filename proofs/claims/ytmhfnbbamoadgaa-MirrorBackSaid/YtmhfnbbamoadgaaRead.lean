/-
  READING A RECORD: a contract for texts of records.
-/
import Derived.Test.YtmhfnbbamoadgaaReadV
import Derived.Test.YtmhfnbbamoadgaaRec
namespace Go.Proofs.Ytmhfnbbamoadgaa
open Go.RowKit Go.Abs Go
theorem acc_any {a e : Int} {s : Nat} (ha : 0 ≤ a ∧ a < 2 ^ s) (he : 0 ≤ e ∧ e < 256) (hs : s ≤ 28) : std.bor .i64 a (std.shl .i64 (std.wrap .i64 (std.band .u8 e 127)) (s : Int)) = a + e % 128 * 2 ^ s := by
  have hp : (2 : Int) ^ s ≤ 2 ^ 28 := by
    have := Nat.pow_le_pow_right (show 0 < 2 by omega) hs
    exact_mod_cast this
  have hp0 : (0 : Int) < 2 ^ s := by
    have := Nat.two_pow_pos s
    exact_mod_cast this
  have hm : 0 ≤ e % 128 ∧ e % 128 ≤ 127 := by omega
  have h1 : 0 ≤ e % 128 * 2 ^ s := Int.mul_nonneg hm.1 (Int.le_of_lt hp0)
  have h2 : e % 128 * 2 ^ s ≤ 127 * 2 ^ 28 := Int.mul_le_mul hm.2 hp (Int.le_of_lt hp0) (by omega)
  rw [band127_u8 he, wrap64 ⟨by omega, by omega⟩, shl_small ⟨h1, by omega⟩ (by omega)]
  rw [bor_join (i := s) (x := e % 128 * 2 ^ s) (y := a) ⟨h1, by omega⟩ (Int.mul_emod_left _ _) ha (by omega)]
  omega
theorem acc0 {e : Int} (he : 0 ≤ e ∧ e < 256) : std.bor .i64 0 (std.shl .i64 (std.wrap .i64 (std.band .u8 e 127)) 0) = e % 128 := by
  have := acc_any (a := 0) (e := e) (s := 0) ⟨by omega, by decide⟩ he (by omega)
  rw [show ((0 : Nat) : Int) = 0 from rfl] at this
  rw [this]; omega
theorem acc7 {a e : Int} (ha : 0 ≤ a ∧ a < 128) (he : 0 ≤ e ∧ e < 256) : std.bor .i64 a (std.shl .i64 (std.wrap .i64 (std.band .u8 e 127)) 7) = a + e % 128 * 128 := by
  have := acc_any (a := a) (e := e) (s := 7) ⟨ha.1, by rw [show (2 : Int) ^ 7 = 128 from by decide]; exact ha.2⟩ he (by omega)
  rw [show (((7 : Nat)) : Int) = 7 from rfl, show (2 : Int) ^ 7 = 128 from by decide] at this
  exact this
theorem acc14 {a e : Int} (ha : 0 ≤ a ∧ a < 16384) (he : 0 ≤ e ∧ e < 256) : std.bor .i64 a (std.shl .i64 (std.wrap .i64 (std.band .u8 e 127)) 14) = a + e % 128 * 16384 := by
  have := acc_any (a := a) (e := e) (s := 14) ⟨ha.1, by rw [show (2 : Int) ^ 14 = 16384 from by decide]; exact ha.2⟩ he (by omega)
  rw [show (((14 : Nat)) : Int) = 14 from rfl, show (2 : Int) ^ 14 = 16384 from by decide] at this
  exact this
theorem acc21 {a e : Int} (ha : 0 ≤ a ∧ a < 2097152) (he : 0 ≤ e ∧ e < 256) : std.bor .i64 a (std.shl .i64 (std.wrap .i64 (std.band .u8 e 127)) 21) = a + e % 128 * 2097152 := by
  have := acc_any (a := a) (e := e) (s := 21) ⟨ha.1, by rw [show (2 : Int) ^ 21 = 2097152 from by decide]; exact ha.2⟩ he (by omega)
  rw [show (((21 : Nat)) : Int) = 21 from rfl, show (2 : Int) ^ 21 = 2097152 from by decide] at this
  exact this
theorem acc28 {a e : Int} (ha : 0 ≤ a ∧ a < 268435456) (he : 0 ≤ e ∧ e < 256) : std.bor .i64 a (std.shl .i64 (std.wrap .i64 (std.band .u8 e 127)) 28) = a + e % 128 * 268435456 := by
  have := acc_any (a := a) (e := e) (s := 28) ⟨ha.1, by rw [show (2 : Int) ^ 28 = 268435456 from by decide]; exact ha.2⟩ he (by omega)
  rw [show (((28 : Nat)) : Int) = 28 from rfl, show (2 : Int) ^ 28 = 268435456 from by decide] at this
  exact this
theorem enc1 {n : Int} (h : 0 ≤ n ∧ n ≤ 127) : enc n = [n] := by
  unfold enc
  rw [encF, if_neg (show ¬ 127 < n by omega), wrap8 ⟨by omega, by omega⟩]
theorem enc2 {n : Int} (h : 128 ≤ n ∧ n ≤ 16383) : enc n = [n % 128 + 128, n / 128] := by
  unfold enc
  rw [encF, if_pos (show 127 < n by omega), more_byte, shr7]
  rw [encF, if_neg (show ¬ 127 < n / 128 by omega), wrap8 ⟨by omega, by omega⟩]
theorem enc3 {n : Int} (h : 16384 ≤ n ∧ n ≤ 2097151) : enc n = [n % 128 + 128, n / 128 % 128 + 128, n / 128 / 128] := by
  unfold enc
  rw [encF, if_pos (show 127 < n by omega), more_byte, shr7]
  rw [encF, if_pos (show 127 < n / 128 by omega), more_byte, shr7]
  rw [encF, if_neg (show ¬ 127 < n / 128 / 128 by omega), wrap8 ⟨by omega, by omega⟩]
theorem enc4 {n : Int} (h : 2097152 ≤ n ∧ n ≤ 268435455) : enc n = [n % 128 + 128, n / 128 % 128 + 128, n / 128 / 128 % 128 + 128, n / 128 / 128 / 128] := by
  unfold enc
  rw [encF, if_pos (show 127 < n by omega), more_byte, shr7]
  rw [encF, if_pos (show 127 < n / 128 by omega), more_byte, shr7]
  rw [encF, if_pos (show 127 < n / 128 / 128 by omega), more_byte, shr7]
  rw [encF, if_neg (show ¬ 127 < n / 128 / 128 / 128 by omega), wrap8 ⟨by omega, by omega⟩]
theorem enc5 {n : Int} (h : 268435456 ≤ n ∧ n ≤ 1073741824) : enc n = [n % 128 + 128, n / 128 % 128 + 128, n / 128 / 128 % 128 + 128, n / 128 / 128 / 128 % 128 + 128, n / 128 / 128 / 128 / 128] := by
  unfold enc
  rw [encF, if_pos (show 127 < n by omega), more_byte, shr7]
  rw [encF, if_pos (show 127 < n / 128 by omega), more_byte, shr7]
  rw [encF, if_pos (show 127 < n / 128 / 128 by omega), more_byte, shr7]
  rw [encF, if_pos (show 127 < n / 128 / 128 / 128 by omega), more_byte, shr7]
  rw [encF, if_neg (show ¬ 127 < n / 128 / 128 / 128 / 128 by omega), wrap8 ⟨by omega, by omega⟩]
set_option maxHeartbeats 2000000 in
theorem read11_run (s : ByteArray) (t r e0 e1 : Int) (hs : std.sbytes s = [e0, e1]) (hk : std.slen s = 2) (ht : 0 ≤ t ∧ t ≤ 127) (hr : 0 ≤ r ∧ r ≤ 127) (h0 : e0 = t) (h1 : e1 = r) :
    lawV std Try.prog (readCons std 1 2 [e0, e1]) (inCallF 60) 60 (fun _ => none) Try.f52 (bodyS Try.prog 52) [mk (.string s)] H0 (fun v _ => Three t r v) := by
  rw [read11_vc]
  simp (disch := omega) only [acc0]
  rw [hs, hk]
  repeat' first
    | (intro h; exact absurd h (by decide))
    | (refine And.intro ?_ ?_)
    | (intro h)
  all_goals first
    | rfl
    | (refine decide_eq_true ?_; omega)
    | (refine decide_eq_false ?_; omega)
    | (refine congrArg (Value.int .i64) ?_ <;> omega)
    | omega
    | exact trivial
    | exact Nat.le_refl _
set_option maxHeartbeats 2000000 in
theorem read12_run (s : ByteArray) (t r e0 e1 e2 : Int) (hs : std.sbytes s = [e0, e1, e2]) (hk : std.slen s = 3) (ht : 0 ≤ t ∧ t ≤ 127) (hr : 128 ≤ r ∧ r ≤ 16383) (h0 : e0 = t) (h1 : e1 = r % 128 + 128) (h2 : e2 = r / 128) :
    lawV std Try.prog (readCons std 1 3 [e0, e1, e2]) (inCallF 60) 60 (fun _ => none) Try.f52 (bodyS Try.prog 52) [mk (.string s)] H0 (fun v _ => Three t r v) := by
  rw [read12_vc]
  simp (disch := omega) only [acc0, acc7]
  rw [hs, hk]
  repeat' first
    | (intro h; exact absurd h (by decide))
    | (refine And.intro ?_ ?_)
    | (intro h)
  all_goals first
    | rfl
    | (refine decide_eq_true ?_; omega)
    | (refine decide_eq_false ?_; omega)
    | (refine congrArg (Value.int .i64) ?_ <;> omega)
    | omega
    | exact trivial
    | exact Nat.le_refl _
set_option maxHeartbeats 2000000 in
theorem read13_run (s : ByteArray) (t r e0 e1 e2 e3 : Int) (hs : std.sbytes s = [e0, e1, e2, e3]) (hk : std.slen s = 4) (ht : 0 ≤ t ∧ t ≤ 127) (hr : 16384 ≤ r ∧ r ≤ 2097151) (h0 : e0 = t) (h1 : e1 = r % 128 + 128) (h2 : e2 = r / 128 % 128 + 128) (h3 : e3 = r / 128 / 128) :
    lawV std Try.prog (readCons std 1 4 [e0, e1, e2, e3]) (inCallF 60) 60 (fun _ => none) Try.f52 (bodyS Try.prog 52) [mk (.string s)] H0 (fun v _ => Three t r v) := by
  rw [read13_vc]
  simp (disch := omega) only [acc0, acc7, acc14]
  rw [hs, hk]
  repeat' first
    | (intro h; exact absurd h (by decide))
    | (refine And.intro ?_ ?_)
    | (intro h)
  all_goals first
    | rfl
    | (refine decide_eq_true ?_; omega)
    | (refine decide_eq_false ?_; omega)
    | (refine congrArg (Value.int .i64) ?_ <;> omega)
    | omega
    | exact trivial
    | exact Nat.le_refl _
set_option maxHeartbeats 2000000 in
theorem read14_run (s : ByteArray) (t r e0 e1 e2 e3 e4 : Int) (hs : std.sbytes s = [e0, e1, e2, e3, e4]) (hk : std.slen s = 5) (ht : 0 ≤ t ∧ t ≤ 127) (hr : 2097152 ≤ r ∧ r ≤ 268435455) (h0 : e0 = t) (h1 : e1 = r % 128 + 128) (h2 : e2 = r / 128 % 128 + 128) (h3 : e3 = r / 128 / 128 % 128 + 128) (h4 : e4 = r / 128 / 128 / 128) :
    lawV std Try.prog (readCons std 1 5 [e0, e1, e2, e3, e4]) (inCallF 60) 60 (fun _ => none) Try.f52 (bodyS Try.prog 52) [mk (.string s)] H0 (fun v _ => Three t r v) := by
  rw [read14_vc]
  simp (disch := omega) only [acc0, acc7, acc14, acc21]
  rw [hs, hk]
  repeat' first
    | (intro h; exact absurd h (by decide))
    | (refine And.intro ?_ ?_)
    | (intro h)
  all_goals first
    | rfl
    | (refine decide_eq_true ?_; omega)
    | (refine decide_eq_false ?_; omega)
    | (refine congrArg (Value.int .i64) ?_ <;> omega)
    | omega
    | exact trivial
    | exact Nat.le_refl _
set_option maxHeartbeats 2000000 in
theorem read15_run (s : ByteArray) (t r e0 e1 e2 e3 e4 e5 : Int) (hs : std.sbytes s = [e0, e1, e2, e3, e4, e5]) (hk : std.slen s = 6) (ht : 0 ≤ t ∧ t ≤ 127) (hr : 268435456 ≤ r ∧ r ≤ 1073741824) (h0 : e0 = t) (h1 : e1 = r % 128 + 128) (h2 : e2 = r / 128 % 128 + 128) (h3 : e3 = r / 128 / 128 % 128 + 128) (h4 : e4 = r / 128 / 128 / 128 % 128 + 128) (h5 : e5 = r / 128 / 128 / 128 / 128) :
    lawV std Try.prog (readCons std 1 6 [e0, e1, e2, e3, e4, e5]) (inCallF 60) 60 (fun _ => none) Try.f52 (bodyS Try.prog 52) [mk (.string s)] H0 (fun v _ => Three t r v) := by
  rw [read15_vc]
  simp (disch := omega) only [acc0, acc7, acc14, acc21, acc28]
  rw [hs, hk]
  repeat' first
    | (intro h; exact absurd h (by decide))
    | (refine And.intro ?_ ?_)
    | (intro h)
  all_goals first
    | rfl
    | (refine decide_eq_true ?_; omega)
    | (refine decide_eq_false ?_; omega)
    | (refine congrArg (Value.int .i64) ?_ <;> omega)
    | omega
    | exact trivial
    | exact Nat.le_refl _
set_option maxHeartbeats 2000000 in
theorem read21_run (s : ByteArray) (t r e0 e1 e2 : Int) (hs : std.sbytes s = [e0, e1, e2]) (hk : std.slen s = 3) (ht : 128 ≤ t ∧ t ≤ 16383) (hr : 0 ≤ r ∧ r ≤ 127) (h0 : e0 = t % 128 + 128) (h1 : e1 = t / 128) (h2 : e2 = r) :
    lawV std Try.prog (readCons std 2 3 [e0, e1, e2]) (inCallF 60) 60 (fun _ => none) Try.f52 (bodyS Try.prog 52) [mk (.string s)] H0 (fun v _ => Three t r v) := by
  rw [read21_vc]
  simp (disch := omega) only [acc0, acc7]
  rw [hs, hk]
  repeat' first
    | (intro h; exact absurd h (by decide))
    | (refine And.intro ?_ ?_)
    | (intro h)
  all_goals first
    | rfl
    | (refine decide_eq_true ?_; omega)
    | (refine decide_eq_false ?_; omega)
    | (refine congrArg (Value.int .i64) ?_ <;> omega)
    | omega
    | exact trivial
    | exact Nat.le_refl _
set_option maxHeartbeats 2000000 in
theorem read22_run (s : ByteArray) (t r e0 e1 e2 e3 : Int) (hs : std.sbytes s = [e0, e1, e2, e3]) (hk : std.slen s = 4) (ht : 128 ≤ t ∧ t ≤ 16383) (hr : 128 ≤ r ∧ r ≤ 16383) (h0 : e0 = t % 128 + 128) (h1 : e1 = t / 128) (h2 : e2 = r % 128 + 128) (h3 : e3 = r / 128) :
    lawV std Try.prog (readCons std 2 4 [e0, e1, e2, e3]) (inCallF 60) 60 (fun _ => none) Try.f52 (bodyS Try.prog 52) [mk (.string s)] H0 (fun v _ => Three t r v) := by
  rw [read22_vc]
  simp (disch := omega) only [acc0, acc7]
  rw [hs, hk]
  repeat' first
    | (intro h; exact absurd h (by decide))
    | (refine And.intro ?_ ?_)
    | (intro h)
  all_goals first
    | rfl
    | (refine decide_eq_true ?_; omega)
    | (refine decide_eq_false ?_; omega)
    | (refine congrArg (Value.int .i64) ?_ <;> omega)
    | omega
    | exact trivial
    | exact Nat.le_refl _
set_option maxHeartbeats 2000000 in
theorem read23_run (s : ByteArray) (t r e0 e1 e2 e3 e4 : Int) (hs : std.sbytes s = [e0, e1, e2, e3, e4]) (hk : std.slen s = 5) (ht : 128 ≤ t ∧ t ≤ 16383) (hr : 16384 ≤ r ∧ r ≤ 2097151) (h0 : e0 = t % 128 + 128) (h1 : e1 = t / 128) (h2 : e2 = r % 128 + 128) (h3 : e3 = r / 128 % 128 + 128) (h4 : e4 = r / 128 / 128) :
    lawV std Try.prog (readCons std 2 5 [e0, e1, e2, e3, e4]) (inCallF 60) 60 (fun _ => none) Try.f52 (bodyS Try.prog 52) [mk (.string s)] H0 (fun v _ => Three t r v) := by
  rw [read23_vc]
  simp (disch := omega) only [acc0, acc7, acc14]
  rw [hs, hk]
  repeat' first
    | (intro h; exact absurd h (by decide))
    | (refine And.intro ?_ ?_)
    | (intro h)
  all_goals first
    | rfl
    | (refine decide_eq_true ?_; omega)
    | (refine decide_eq_false ?_; omega)
    | (refine congrArg (Value.int .i64) ?_ <;> omega)
    | omega
    | exact trivial
    | exact Nat.le_refl _
set_option maxHeartbeats 2000000 in
theorem read24_run (s : ByteArray) (t r e0 e1 e2 e3 e4 e5 : Int) (hs : std.sbytes s = [e0, e1, e2, e3, e4, e5]) (hk : std.slen s = 6) (ht : 128 ≤ t ∧ t ≤ 16383) (hr : 2097152 ≤ r ∧ r ≤ 268435455) (h0 : e0 = t % 128 + 128) (h1 : e1 = t / 128) (h2 : e2 = r % 128 + 128) (h3 : e3 = r / 128 % 128 + 128) (h4 : e4 = r / 128 / 128 % 128 + 128) (h5 : e5 = r / 128 / 128 / 128) :
    lawV std Try.prog (readCons std 2 6 [e0, e1, e2, e3, e4, e5]) (inCallF 60) 60 (fun _ => none) Try.f52 (bodyS Try.prog 52) [mk (.string s)] H0 (fun v _ => Three t r v) := by
  rw [read24_vc]
  simp (disch := omega) only [acc0, acc7, acc14, acc21]
  rw [hs, hk]
  repeat' first
    | (intro h; exact absurd h (by decide))
    | (refine And.intro ?_ ?_)
    | (intro h)
  all_goals first
    | rfl
    | (refine decide_eq_true ?_; omega)
    | (refine decide_eq_false ?_; omega)
    | (refine congrArg (Value.int .i64) ?_ <;> omega)
    | omega
    | exact trivial
    | exact Nat.le_refl _
set_option maxHeartbeats 2000000 in
theorem read25_run (s : ByteArray) (t r e0 e1 e2 e3 e4 e5 e6 : Int) (hs : std.sbytes s = [e0, e1, e2, e3, e4, e5, e6]) (hk : std.slen s = 7) (ht : 128 ≤ t ∧ t ≤ 16383) (hr : 268435456 ≤ r ∧ r ≤ 1073741824) (h0 : e0 = t % 128 + 128) (h1 : e1 = t / 128) (h2 : e2 = r % 128 + 128) (h3 : e3 = r / 128 % 128 + 128) (h4 : e4 = r / 128 / 128 % 128 + 128) (h5 : e5 = r / 128 / 128 / 128 % 128 + 128) (h6 : e6 = r / 128 / 128 / 128 / 128) :
    lawV std Try.prog (readCons std 2 7 [e0, e1, e2, e3, e4, e5, e6]) (inCallF 60) 60 (fun _ => none) Try.f52 (bodyS Try.prog 52) [mk (.string s)] H0 (fun v _ => Three t r v) := by
  rw [read25_vc]
  simp (disch := omega) only [acc0, acc7, acc14, acc21, acc28]
  rw [hs, hk]
  repeat' first
    | (intro h; exact absurd h (by decide))
    | (refine And.intro ?_ ?_)
    | (intro h)
  all_goals first
    | rfl
    | (refine decide_eq_true ?_; omega)
    | (refine decide_eq_false ?_; omega)
    | (refine congrArg (Value.int .i64) ?_ <;> omega)
    | omega
    | exact trivial
    | exact Nat.le_refl _
set_option maxHeartbeats 2000000 in
theorem read31_run (s : ByteArray) (t r e0 e1 e2 e3 : Int) (hs : std.sbytes s = [e0, e1, e2, e3]) (hk : std.slen s = 4) (ht : 16384 ≤ t ∧ t ≤ 2097151) (hr : 0 ≤ r ∧ r ≤ 127) (h0 : e0 = t % 128 + 128) (h1 : e1 = t / 128 % 128 + 128) (h2 : e2 = t / 128 / 128) (h3 : e3 = r) :
    lawV std Try.prog (readCons std 3 4 [e0, e1, e2, e3]) (inCallF 60) 60 (fun _ => none) Try.f52 (bodyS Try.prog 52) [mk (.string s)] H0 (fun v _ => Three t r v) := by
  rw [read31_vc]
  simp (disch := omega) only [acc0, acc7, acc14]
  rw [hs, hk]
  repeat' first
    | (intro h; exact absurd h (by decide))
    | (refine And.intro ?_ ?_)
    | (intro h)
  all_goals first
    | rfl
    | (refine decide_eq_true ?_; omega)
    | (refine decide_eq_false ?_; omega)
    | (refine congrArg (Value.int .i64) ?_ <;> omega)
    | omega
    | exact trivial
    | exact Nat.le_refl _
set_option maxHeartbeats 2000000 in
theorem read32_run (s : ByteArray) (t r e0 e1 e2 e3 e4 : Int) (hs : std.sbytes s = [e0, e1, e2, e3, e4]) (hk : std.slen s = 5) (ht : 16384 ≤ t ∧ t ≤ 2097151) (hr : 128 ≤ r ∧ r ≤ 16383) (h0 : e0 = t % 128 + 128) (h1 : e1 = t / 128 % 128 + 128) (h2 : e2 = t / 128 / 128) (h3 : e3 = r % 128 + 128) (h4 : e4 = r / 128) :
    lawV std Try.prog (readCons std 3 5 [e0, e1, e2, e3, e4]) (inCallF 60) 60 (fun _ => none) Try.f52 (bodyS Try.prog 52) [mk (.string s)] H0 (fun v _ => Three t r v) := by
  rw [read32_vc]
  simp (disch := omega) only [acc0, acc7, acc14]
  rw [hs, hk]
  repeat' first
    | (intro h; exact absurd h (by decide))
    | (refine And.intro ?_ ?_)
    | (intro h)
  all_goals first
    | rfl
    | (refine decide_eq_true ?_; omega)
    | (refine decide_eq_false ?_; omega)
    | (refine congrArg (Value.int .i64) ?_ <;> omega)
    | omega
    | exact trivial
    | exact Nat.le_refl _
set_option maxHeartbeats 2000000 in
theorem read33_run (s : ByteArray) (t r e0 e1 e2 e3 e4 e5 : Int) (hs : std.sbytes s = [e0, e1, e2, e3, e4, e5]) (hk : std.slen s = 6) (ht : 16384 ≤ t ∧ t ≤ 2097151) (hr : 16384 ≤ r ∧ r ≤ 2097151) (h0 : e0 = t % 128 + 128) (h1 : e1 = t / 128 % 128 + 128) (h2 : e2 = t / 128 / 128) (h3 : e3 = r % 128 + 128) (h4 : e4 = r / 128 % 128 + 128) (h5 : e5 = r / 128 / 128) :
    lawV std Try.prog (readCons std 3 6 [e0, e1, e2, e3, e4, e5]) (inCallF 60) 60 (fun _ => none) Try.f52 (bodyS Try.prog 52) [mk (.string s)] H0 (fun v _ => Three t r v) := by
  rw [read33_vc]
  simp (disch := omega) only [acc0, acc7, acc14]
  rw [hs, hk]
  repeat' first
    | (intro h; exact absurd h (by decide))
    | (refine And.intro ?_ ?_)
    | (intro h)
  all_goals first
    | rfl
    | (refine decide_eq_true ?_; omega)
    | (refine decide_eq_false ?_; omega)
    | (refine congrArg (Value.int .i64) ?_ <;> omega)
    | omega
    | exact trivial
    | exact Nat.le_refl _
set_option maxHeartbeats 2000000 in
theorem read34_run (s : ByteArray) (t r e0 e1 e2 e3 e4 e5 e6 : Int) (hs : std.sbytes s = [e0, e1, e2, e3, e4, e5, e6]) (hk : std.slen s = 7) (ht : 16384 ≤ t ∧ t ≤ 2097151) (hr : 2097152 ≤ r ∧ r ≤ 268435455) (h0 : e0 = t % 128 + 128) (h1 : e1 = t / 128 % 128 + 128) (h2 : e2 = t / 128 / 128) (h3 : e3 = r % 128 + 128) (h4 : e4 = r / 128 % 128 + 128) (h5 : e5 = r / 128 / 128 % 128 + 128) (h6 : e6 = r / 128 / 128 / 128) :
    lawV std Try.prog (readCons std 3 7 [e0, e1, e2, e3, e4, e5, e6]) (inCallF 60) 60 (fun _ => none) Try.f52 (bodyS Try.prog 52) [mk (.string s)] H0 (fun v _ => Three t r v) := by
  rw [read34_vc]
  simp (disch := omega) only [acc0, acc7, acc14, acc21]
  rw [hs, hk]
  repeat' first
    | (intro h; exact absurd h (by decide))
    | (refine And.intro ?_ ?_)
    | (intro h)
  all_goals first
    | rfl
    | (refine decide_eq_true ?_; omega)
    | (refine decide_eq_false ?_; omega)
    | (refine congrArg (Value.int .i64) ?_ <;> omega)
    | omega
    | exact trivial
    | exact Nat.le_refl _
set_option maxHeartbeats 2000000 in
theorem read35_run (s : ByteArray) (t r e0 e1 e2 e3 e4 e5 e6 e7 : Int) (hs : std.sbytes s = [e0, e1, e2, e3, e4, e5, e6, e7]) (hk : std.slen s = 8) (ht : 16384 ≤ t ∧ t ≤ 2097151) (hr : 268435456 ≤ r ∧ r ≤ 1073741824) (h0 : e0 = t % 128 + 128) (h1 : e1 = t / 128 % 128 + 128) (h2 : e2 = t / 128 / 128) (h3 : e3 = r % 128 + 128) (h4 : e4 = r / 128 % 128 + 128) (h5 : e5 = r / 128 / 128 % 128 + 128) (h6 : e6 = r / 128 / 128 / 128 % 128 + 128) (h7 : e7 = r / 128 / 128 / 128 / 128) :
    lawV std Try.prog (readCons std 3 8 [e0, e1, e2, e3, e4, e5, e6, e7]) (inCallF 60) 60 (fun _ => none) Try.f52 (bodyS Try.prog 52) [mk (.string s)] H0 (fun v _ => Three t r v) := by
  rw [read35_vc]
  simp (disch := omega) only [acc0, acc7, acc14, acc21, acc28]
  rw [hs, hk]
  repeat' first
    | (intro h; exact absurd h (by decide))
    | (refine And.intro ?_ ?_)
    | (intro h)
  all_goals first
    | rfl
    | (refine decide_eq_true ?_; omega)
    | (refine decide_eq_false ?_; omega)
    | (refine congrArg (Value.int .i64) ?_ <;> omega)
    | omega
    | exact trivial
    | exact Nat.le_refl _
set_option maxHeartbeats 2000000 in
theorem read41_run (s : ByteArray) (t r e0 e1 e2 e3 e4 : Int) (hs : std.sbytes s = [e0, e1, e2, e3, e4]) (hk : std.slen s = 5) (ht : 2097152 ≤ t ∧ t ≤ 268435455) (hr : 0 ≤ r ∧ r ≤ 127) (h0 : e0 = t % 128 + 128) (h1 : e1 = t / 128 % 128 + 128) (h2 : e2 = t / 128 / 128 % 128 + 128) (h3 : e3 = t / 128 / 128 / 128) (h4 : e4 = r) :
    lawV std Try.prog (readCons std 4 5 [e0, e1, e2, e3, e4]) (inCallF 60) 60 (fun _ => none) Try.f52 (bodyS Try.prog 52) [mk (.string s)] H0 (fun v _ => Three t r v) := by
  rw [read41_vc]
  simp (disch := omega) only [acc0, acc7, acc14, acc21]
  rw [hs, hk]
  repeat' first
    | (intro h; exact absurd h (by decide))
    | (refine And.intro ?_ ?_)
    | (intro h)
  all_goals first
    | rfl
    | (refine decide_eq_true ?_; omega)
    | (refine decide_eq_false ?_; omega)
    | (refine congrArg (Value.int .i64) ?_ <;> omega)
    | omega
    | exact trivial
    | exact Nat.le_refl _
set_option maxHeartbeats 2000000 in
theorem read42_run (s : ByteArray) (t r e0 e1 e2 e3 e4 e5 : Int) (hs : std.sbytes s = [e0, e1, e2, e3, e4, e5]) (hk : std.slen s = 6) (ht : 2097152 ≤ t ∧ t ≤ 268435455) (hr : 128 ≤ r ∧ r ≤ 16383) (h0 : e0 = t % 128 + 128) (h1 : e1 = t / 128 % 128 + 128) (h2 : e2 = t / 128 / 128 % 128 + 128) (h3 : e3 = t / 128 / 128 / 128) (h4 : e4 = r % 128 + 128) (h5 : e5 = r / 128) :
    lawV std Try.prog (readCons std 4 6 [e0, e1, e2, e3, e4, e5]) (inCallF 60) 60 (fun _ => none) Try.f52 (bodyS Try.prog 52) [mk (.string s)] H0 (fun v _ => Three t r v) := by
  rw [read42_vc]
  simp (disch := omega) only [acc0, acc7, acc14, acc21]
  rw [hs, hk]
  repeat' first
    | (intro h; exact absurd h (by decide))
    | (refine And.intro ?_ ?_)
    | (intro h)
  all_goals first
    | rfl
    | (refine decide_eq_true ?_; omega)
    | (refine decide_eq_false ?_; omega)
    | (refine congrArg (Value.int .i64) ?_ <;> omega)
    | omega
    | exact trivial
    | exact Nat.le_refl _
set_option maxHeartbeats 2000000 in
theorem read43_run (s : ByteArray) (t r e0 e1 e2 e3 e4 e5 e6 : Int) (hs : std.sbytes s = [e0, e1, e2, e3, e4, e5, e6]) (hk : std.slen s = 7) (ht : 2097152 ≤ t ∧ t ≤ 268435455) (hr : 16384 ≤ r ∧ r ≤ 2097151) (h0 : e0 = t % 128 + 128) (h1 : e1 = t / 128 % 128 + 128) (h2 : e2 = t / 128 / 128 % 128 + 128) (h3 : e3 = t / 128 / 128 / 128) (h4 : e4 = r % 128 + 128) (h5 : e5 = r / 128 % 128 + 128) (h6 : e6 = r / 128 / 128) :
    lawV std Try.prog (readCons std 4 7 [e0, e1, e2, e3, e4, e5, e6]) (inCallF 60) 60 (fun _ => none) Try.f52 (bodyS Try.prog 52) [mk (.string s)] H0 (fun v _ => Three t r v) := by
  rw [read43_vc]
  simp (disch := omega) only [acc0, acc7, acc14, acc21]
  rw [hs, hk]
  repeat' first
    | (intro h; exact absurd h (by decide))
    | (refine And.intro ?_ ?_)
    | (intro h)
  all_goals first
    | rfl
    | (refine decide_eq_true ?_; omega)
    | (refine decide_eq_false ?_; omega)
    | (refine congrArg (Value.int .i64) ?_ <;> omega)
    | omega
    | exact trivial
    | exact Nat.le_refl _
set_option maxHeartbeats 2000000 in
theorem read44_run (s : ByteArray) (t r e0 e1 e2 e3 e4 e5 e6 e7 : Int) (hs : std.sbytes s = [e0, e1, e2, e3, e4, e5, e6, e7]) (hk : std.slen s = 8) (ht : 2097152 ≤ t ∧ t ≤ 268435455) (hr : 2097152 ≤ r ∧ r ≤ 268435455) (h0 : e0 = t % 128 + 128) (h1 : e1 = t / 128 % 128 + 128) (h2 : e2 = t / 128 / 128 % 128 + 128) (h3 : e3 = t / 128 / 128 / 128) (h4 : e4 = r % 128 + 128) (h5 : e5 = r / 128 % 128 + 128) (h6 : e6 = r / 128 / 128 % 128 + 128) (h7 : e7 = r / 128 / 128 / 128) :
    lawV std Try.prog (readCons std 4 8 [e0, e1, e2, e3, e4, e5, e6, e7]) (inCallF 60) 60 (fun _ => none) Try.f52 (bodyS Try.prog 52) [mk (.string s)] H0 (fun v _ => Three t r v) := by
  rw [read44_vc]
  simp (disch := omega) only [acc0, acc7, acc14, acc21]
  rw [hs, hk]
  repeat' first
    | (intro h; exact absurd h (by decide))
    | (refine And.intro ?_ ?_)
    | (intro h)
  all_goals first
    | rfl
    | (refine decide_eq_true ?_; omega)
    | (refine decide_eq_false ?_; omega)
    | (refine congrArg (Value.int .i64) ?_ <;> omega)
    | omega
    | exact trivial
    | exact Nat.le_refl _
set_option maxHeartbeats 2000000 in
theorem read45_run (s : ByteArray) (t r e0 e1 e2 e3 e4 e5 e6 e7 e8 : Int) (hs : std.sbytes s = [e0, e1, e2, e3, e4, e5, e6, e7, e8]) (hk : std.slen s = 9) (ht : 2097152 ≤ t ∧ t ≤ 268435455) (hr : 268435456 ≤ r ∧ r ≤ 1073741824) (h0 : e0 = t % 128 + 128) (h1 : e1 = t / 128 % 128 + 128) (h2 : e2 = t / 128 / 128 % 128 + 128) (h3 : e3 = t / 128 / 128 / 128) (h4 : e4 = r % 128 + 128) (h5 : e5 = r / 128 % 128 + 128) (h6 : e6 = r / 128 / 128 % 128 + 128) (h7 : e7 = r / 128 / 128 / 128 % 128 + 128) (h8 : e8 = r / 128 / 128 / 128 / 128) :
    lawV std Try.prog (readCons std 4 9 [e0, e1, e2, e3, e4, e5, e6, e7, e8]) (inCallF 60) 60 (fun _ => none) Try.f52 (bodyS Try.prog 52) [mk (.string s)] H0 (fun v _ => Three t r v) := by
  rw [read45_vc]
  simp (disch := omega) only [acc0, acc7, acc14, acc21, acc28]
  rw [hs, hk]
  repeat' first
    | (intro h; exact absurd h (by decide))
    | (refine And.intro ?_ ?_)
    | (intro h)
  all_goals first
    | rfl
    | (refine decide_eq_true ?_; omega)
    | (refine decide_eq_false ?_; omega)
    | (refine congrArg (Value.int .i64) ?_ <;> omega)
    | omega
    | exact trivial
    | exact Nat.le_refl _
set_option maxHeartbeats 2000000 in
theorem read51_run (s : ByteArray) (t r e0 e1 e2 e3 e4 e5 : Int) (hs : std.sbytes s = [e0, e1, e2, e3, e4, e5]) (hk : std.slen s = 6) (ht : 268435456 ≤ t ∧ t ≤ 1073741824) (hr : 0 ≤ r ∧ r ≤ 127) (h0 : e0 = t % 128 + 128) (h1 : e1 = t / 128 % 128 + 128) (h2 : e2 = t / 128 / 128 % 128 + 128) (h3 : e3 = t / 128 / 128 / 128 % 128 + 128) (h4 : e4 = t / 128 / 128 / 128 / 128) (h5 : e5 = r) :
    lawV std Try.prog (readCons std 5 6 [e0, e1, e2, e3, e4, e5]) (inCallF 60) 60 (fun _ => none) Try.f52 (bodyS Try.prog 52) [mk (.string s)] H0 (fun v _ => Three t r v) := by
  rw [read51_vc]
  simp (disch := omega) only [acc0, acc7, acc14, acc21, acc28]
  rw [hs, hk]
  repeat' first
    | (intro h; exact absurd h (by decide))
    | (refine And.intro ?_ ?_)
    | (intro h)
  all_goals first
    | rfl
    | (refine decide_eq_true ?_; omega)
    | (refine decide_eq_false ?_; omega)
    | (refine congrArg (Value.int .i64) ?_ <;> omega)
    | omega
    | exact trivial
    | exact Nat.le_refl _
set_option maxHeartbeats 2000000 in
theorem read52_run (s : ByteArray) (t r e0 e1 e2 e3 e4 e5 e6 : Int) (hs : std.sbytes s = [e0, e1, e2, e3, e4, e5, e6]) (hk : std.slen s = 7) (ht : 268435456 ≤ t ∧ t ≤ 1073741824) (hr : 128 ≤ r ∧ r ≤ 16383) (h0 : e0 = t % 128 + 128) (h1 : e1 = t / 128 % 128 + 128) (h2 : e2 = t / 128 / 128 % 128 + 128) (h3 : e3 = t / 128 / 128 / 128 % 128 + 128) (h4 : e4 = t / 128 / 128 / 128 / 128) (h5 : e5 = r % 128 + 128) (h6 : e6 = r / 128) :
    lawV std Try.prog (readCons std 5 7 [e0, e1, e2, e3, e4, e5, e6]) (inCallF 60) 60 (fun _ => none) Try.f52 (bodyS Try.prog 52) [mk (.string s)] H0 (fun v _ => Three t r v) := by
  rw [read52_vc]
  simp (disch := omega) only [acc0, acc7, acc14, acc21, acc28]
  rw [hs, hk]
  repeat' first
    | (intro h; exact absurd h (by decide))
    | (refine And.intro ?_ ?_)
    | (intro h)
  all_goals first
    | rfl
    | (refine decide_eq_true ?_; omega)
    | (refine decide_eq_false ?_; omega)
    | (refine congrArg (Value.int .i64) ?_ <;> omega)
    | omega
    | exact trivial
    | exact Nat.le_refl _
set_option maxHeartbeats 2000000 in
theorem read53_run (s : ByteArray) (t r e0 e1 e2 e3 e4 e5 e6 e7 : Int) (hs : std.sbytes s = [e0, e1, e2, e3, e4, e5, e6, e7]) (hk : std.slen s = 8) (ht : 268435456 ≤ t ∧ t ≤ 1073741824) (hr : 16384 ≤ r ∧ r ≤ 2097151) (h0 : e0 = t % 128 + 128) (h1 : e1 = t / 128 % 128 + 128) (h2 : e2 = t / 128 / 128 % 128 + 128) (h3 : e3 = t / 128 / 128 / 128 % 128 + 128) (h4 : e4 = t / 128 / 128 / 128 / 128) (h5 : e5 = r % 128 + 128) (h6 : e6 = r / 128 % 128 + 128) (h7 : e7 = r / 128 / 128) :
    lawV std Try.prog (readCons std 5 8 [e0, e1, e2, e3, e4, e5, e6, e7]) (inCallF 60) 60 (fun _ => none) Try.f52 (bodyS Try.prog 52) [mk (.string s)] H0 (fun v _ => Three t r v) := by
  rw [read53_vc]
  simp (disch := omega) only [acc0, acc7, acc14, acc21, acc28]
  rw [hs, hk]
  repeat' first
    | (intro h; exact absurd h (by decide))
    | (refine And.intro ?_ ?_)
    | (intro h)
  all_goals first
    | rfl
    | (refine decide_eq_true ?_; omega)
    | (refine decide_eq_false ?_; omega)
    | (refine congrArg (Value.int .i64) ?_ <;> omega)
    | omega
    | exact trivial
    | exact Nat.le_refl _
set_option maxHeartbeats 2000000 in
theorem read54_run (s : ByteArray) (t r e0 e1 e2 e3 e4 e5 e6 e7 e8 : Int) (hs : std.sbytes s = [e0, e1, e2, e3, e4, e5, e6, e7, e8]) (hk : std.slen s = 9) (ht : 268435456 ≤ t ∧ t ≤ 1073741824) (hr : 2097152 ≤ r ∧ r ≤ 268435455) (h0 : e0 = t % 128 + 128) (h1 : e1 = t / 128 % 128 + 128) (h2 : e2 = t / 128 / 128 % 128 + 128) (h3 : e3 = t / 128 / 128 / 128 % 128 + 128) (h4 : e4 = t / 128 / 128 / 128 / 128) (h5 : e5 = r % 128 + 128) (h6 : e6 = r / 128 % 128 + 128) (h7 : e7 = r / 128 / 128 % 128 + 128) (h8 : e8 = r / 128 / 128 / 128) :
    lawV std Try.prog (readCons std 5 9 [e0, e1, e2, e3, e4, e5, e6, e7, e8]) (inCallF 60) 60 (fun _ => none) Try.f52 (bodyS Try.prog 52) [mk (.string s)] H0 (fun v _ => Three t r v) := by
  rw [read54_vc]
  simp (disch := omega) only [acc0, acc7, acc14, acc21, acc28]
  rw [hs, hk]
  repeat' first
    | (intro h; exact absurd h (by decide))
    | (refine And.intro ?_ ?_)
    | (intro h)
  all_goals first
    | rfl
    | (refine decide_eq_true ?_; omega)
    | (refine decide_eq_false ?_; omega)
    | (refine congrArg (Value.int .i64) ?_ <;> omega)
    | omega
    | exact trivial
    | exact Nat.le_refl _
set_option maxHeartbeats 2000000 in
theorem read55_run (s : ByteArray) (t r e0 e1 e2 e3 e4 e5 e6 e7 e8 e9 : Int) (hs : std.sbytes s = [e0, e1, e2, e3, e4, e5, e6, e7, e8, e9]) (hk : std.slen s = 10) (ht : 268435456 ≤ t ∧ t ≤ 1073741824) (hr : 268435456 ≤ r ∧ r ≤ 1073741824) (h0 : e0 = t % 128 + 128) (h1 : e1 = t / 128 % 128 + 128) (h2 : e2 = t / 128 / 128 % 128 + 128) (h3 : e3 = t / 128 / 128 / 128 % 128 + 128) (h4 : e4 = t / 128 / 128 / 128 / 128) (h5 : e5 = r % 128 + 128) (h6 : e6 = r / 128 % 128 + 128) (h7 : e7 = r / 128 / 128 % 128 + 128) (h8 : e8 = r / 128 / 128 / 128 % 128 + 128) (h9 : e9 = r / 128 / 128 / 128 / 128) :
    lawV std Try.prog (readCons std 5 10 [e0, e1, e2, e3, e4, e5, e6, e7, e8, e9]) (inCallF 60) 60 (fun _ => none) Try.f52 (bodyS Try.prog 52) [mk (.string s)] H0 (fun v _ => Three t r v) := by
  rw [read55_vc]
  simp (disch := omega) only [acc0, acc7, acc14, acc21, acc28]
  rw [hs, hk]
  repeat' first
    | (intro h; exact absurd h (by decide))
    | (refine And.intro ?_ ?_)
    | (intro h)
  all_goals first
    | rfl
    | (refine decide_eq_true ?_; omega)
    | (refine decide_eq_false ?_; omega)
    | (refine congrArg (Value.int .i64) ?_ <;> omega)
    | omega
    | exact trivial
    | exact Nat.le_refl _
theorem reader_body : Try.f64.body = some (bodyS Try.prog 64) := by kernel_rfl
theorem read_body : Try.f52.body = some (bodyS Try.prog 52) := by kernel_rfl
theorem readerC_ok (es : List Int) : ∀ args h K, readerC std es args h K → CallSem Try.prog 64 args h K := by
  intro args h K e
  have h1 : CallSem Try.prog 64 args h (recastK std es K) := text_sem Try.progOk (noCon_ok _) (inCallF_ok 60) Try.func64 reader_body e
  intro μ base w args' hl hrel hfree
  exact CallSem.recast h1 (fun hk => recastK_ok hk) hl hrel hfree
theorem readCons_ok (i k : Nat) (es : List Int) : ConOk Try.prog (readCons std i k es) := by
  refine tellO_ok (conL_ok fun x hx => ?_) _
  simp only [List.mem_cons, List.not_mem_nil, or_false] at hx
  subst hx
  exact readerC_ok es
set_option maxRecDepth 100000 in
theorem read_val {a : Value} {t r : Int} (ha : den a = .string (recOf t r)) (ht : 0 ≤ t ∧ t ≤ 1073741824) (hr : 0 ≤ r ∧ r ≤ 1073741824) : LVal Try.prog 52 [a] (.tuple #[mk (.int .i64 t), mk (.int .i64 r), .bool true]) := by
  intro μ w args' hl
  obtain ⟨v1, l1, e1, r1, hl⟩ := hl.inv_cons
  have e4 := hl.inv_nil
  have r1 := r1.den
  rw [ha] at r1
  rw [vr_plain_eq r1 rfl] at e1
  subst e4
  have : args' = #[.string (recOf t r)] := Array.toList_inj.1 e1
  subst this
  refine ⟨.tuple #[.int .i64 t, .int .i64 r, .bool true], fun μ' => .tup (All2.cons (.one (.zero (.mark (.plain rfl) rfl))) (All2.cons (.one (.zero (.mark (.plain rfl) rfl))) (All2.cons (.one (.zero (.plain rfl))) All2.nil))), enters_name Try.func52 read_body _ w, ?_⟩
  have fin : ∀ {i k : Nat} {es : List Int}, lawV std Try.prog (readCons std i k es) (inCallF 60) 60 (fun _ => none) Try.f52 (bodyS Try.prog 52) [mk (.string (recOf t r))] H0 (fun v _ => Three t r v) →
      Calls Try.prog 52 #[.string (recOf t r)] w fun en w' => Below w.heap.size w w' ∧ en = .returned (.tuple #[.int .i64 t, .int .i64 r, .bool true]) := fun h =>
    law_tell Try.progOk (readCons_ok _ _ _) (inCallF_ok 60) Try.func52 read_body (R := Three t r) (fun h hv => three_told h hv) (args := [mk (.string (recOf t r))]) (h0 := H0) (fun b x h => by unfold H0 Hp.get at h; simp at h) h (μ := MuN)
      (All2.cons (.zero (.mark (.plain rfl) rfl)) All2.nil) (rel_none _ (Nat.le_refl _)) (fun _ _ => rfl)
  have ct : (0 ≤ t ∧ t ≤ 127) ∨ (128 ≤ t ∧ t ≤ 16383) ∨ (16384 ≤ t ∧ t ≤ 2097151) ∨ (2097152 ≤ t ∧ t ≤ 268435455) ∨ (268435456 ≤ t ∧ t ≤ 1073741824) := by omega
  have cr : (0 ≤ r ∧ r ≤ 127) ∨ (128 ≤ r ∧ r ≤ 16383) ∨ (16384 ≤ r ∧ r ≤ 2097151) ∨ (2097152 ≤ r ∧ r ≤ 268435455) ∨ (268435456 ≤ r ∧ r ≤ 1073741824) := by omega
  rcases ct with c1 | c1 | c1 | c1 | c1 <;> rcases cr with c2 | c2 | c2 | c2 | c2
  · exact fin (read11_run (recOf t r) t r _ _ (by rw [rec_bytes, enc1 c1, enc1 c2]; rfl) (by rw [rec_len, enc1 c1, enc1 c2]; rfl) c1 c2 rfl rfl)
  · exact fin (read12_run (recOf t r) t r _ _ _ (by rw [rec_bytes, enc1 c1, enc2 c2]; rfl) (by rw [rec_len, enc1 c1, enc2 c2]; rfl) c1 c2 rfl rfl rfl)
  · exact fin (read13_run (recOf t r) t r _ _ _ _ (by rw [rec_bytes, enc1 c1, enc3 c2]; rfl) (by rw [rec_len, enc1 c1, enc3 c2]; rfl) c1 c2 rfl rfl rfl rfl)
  · exact fin (read14_run (recOf t r) t r _ _ _ _ _ (by rw [rec_bytes, enc1 c1, enc4 c2]; rfl) (by rw [rec_len, enc1 c1, enc4 c2]; rfl) c1 c2 rfl rfl rfl rfl rfl)
  · exact fin (read15_run (recOf t r) t r _ _ _ _ _ _ (by rw [rec_bytes, enc1 c1, enc5 c2]; rfl) (by rw [rec_len, enc1 c1, enc5 c2]; rfl) c1 c2 rfl rfl rfl rfl rfl rfl)
  · exact fin (read21_run (recOf t r) t r _ _ _ (by rw [rec_bytes, enc2 c1, enc1 c2]; rfl) (by rw [rec_len, enc2 c1, enc1 c2]; rfl) c1 c2 rfl rfl rfl)
  · exact fin (read22_run (recOf t r) t r _ _ _ _ (by rw [rec_bytes, enc2 c1, enc2 c2]; rfl) (by rw [rec_len, enc2 c1, enc2 c2]; rfl) c1 c2 rfl rfl rfl rfl)
  · exact fin (read23_run (recOf t r) t r _ _ _ _ _ (by rw [rec_bytes, enc2 c1, enc3 c2]; rfl) (by rw [rec_len, enc2 c1, enc3 c2]; rfl) c1 c2 rfl rfl rfl rfl rfl)
  · exact fin (read24_run (recOf t r) t r _ _ _ _ _ _ (by rw [rec_bytes, enc2 c1, enc4 c2]; rfl) (by rw [rec_len, enc2 c1, enc4 c2]; rfl) c1 c2 rfl rfl rfl rfl rfl rfl)
  · exact fin (read25_run (recOf t r) t r _ _ _ _ _ _ _ (by rw [rec_bytes, enc2 c1, enc5 c2]; rfl) (by rw [rec_len, enc2 c1, enc5 c2]; rfl) c1 c2 rfl rfl rfl rfl rfl rfl rfl)
  · exact fin (read31_run (recOf t r) t r _ _ _ _ (by rw [rec_bytes, enc3 c1, enc1 c2]; rfl) (by rw [rec_len, enc3 c1, enc1 c2]; rfl) c1 c2 rfl rfl rfl rfl)
  · exact fin (read32_run (recOf t r) t r _ _ _ _ _ (by rw [rec_bytes, enc3 c1, enc2 c2]; rfl) (by rw [rec_len, enc3 c1, enc2 c2]; rfl) c1 c2 rfl rfl rfl rfl rfl)
  · exact fin (read33_run (recOf t r) t r _ _ _ _ _ _ (by rw [rec_bytes, enc3 c1, enc3 c2]; rfl) (by rw [rec_len, enc3 c1, enc3 c2]; rfl) c1 c2 rfl rfl rfl rfl rfl rfl)
  · exact fin (read34_run (recOf t r) t r _ _ _ _ _ _ _ (by rw [rec_bytes, enc3 c1, enc4 c2]; rfl) (by rw [rec_len, enc3 c1, enc4 c2]; rfl) c1 c2 rfl rfl rfl rfl rfl rfl rfl)
  · exact fin (read35_run (recOf t r) t r _ _ _ _ _ _ _ _ (by rw [rec_bytes, enc3 c1, enc5 c2]; rfl) (by rw [rec_len, enc3 c1, enc5 c2]; rfl) c1 c2 rfl rfl rfl rfl rfl rfl rfl rfl)
  · exact fin (read41_run (recOf t r) t r _ _ _ _ _ (by rw [rec_bytes, enc4 c1, enc1 c2]; rfl) (by rw [rec_len, enc4 c1, enc1 c2]; rfl) c1 c2 rfl rfl rfl rfl rfl)
  · exact fin (read42_run (recOf t r) t r _ _ _ _ _ _ (by rw [rec_bytes, enc4 c1, enc2 c2]; rfl) (by rw [rec_len, enc4 c1, enc2 c2]; rfl) c1 c2 rfl rfl rfl rfl rfl rfl)
  · exact fin (read43_run (recOf t r) t r _ _ _ _ _ _ _ (by rw [rec_bytes, enc4 c1, enc3 c2]; rfl) (by rw [rec_len, enc4 c1, enc3 c2]; rfl) c1 c2 rfl rfl rfl rfl rfl rfl rfl)
  · exact fin (read44_run (recOf t r) t r _ _ _ _ _ _ _ _ (by rw [rec_bytes, enc4 c1, enc4 c2]; rfl) (by rw [rec_len, enc4 c1, enc4 c2]; rfl) c1 c2 rfl rfl rfl rfl rfl rfl rfl rfl)
  · exact fin (read45_run (recOf t r) t r _ _ _ _ _ _ _ _ _ (by rw [rec_bytes, enc4 c1, enc5 c2]; rfl) (by rw [rec_len, enc4 c1, enc5 c2]; rfl) c1 c2 rfl rfl rfl rfl rfl rfl rfl rfl rfl)
  · exact fin (read51_run (recOf t r) t r _ _ _ _ _ _ (by rw [rec_bytes, enc5 c1, enc1 c2]; rfl) (by rw [rec_len, enc5 c1, enc1 c2]; rfl) c1 c2 rfl rfl rfl rfl rfl rfl)
  · exact fin (read52_run (recOf t r) t r _ _ _ _ _ _ _ (by rw [rec_bytes, enc5 c1, enc2 c2]; rfl) (by rw [rec_len, enc5 c1, enc2 c2]; rfl) c1 c2 rfl rfl rfl rfl rfl rfl rfl)
  · exact fin (read53_run (recOf t r) t r _ _ _ _ _ _ _ _ (by rw [rec_bytes, enc5 c1, enc3 c2]; rfl) (by rw [rec_len, enc5 c1, enc3 c2]; rfl) c1 c2 rfl rfl rfl rfl rfl rfl rfl rfl)
  · exact fin (read54_run (recOf t r) t r _ _ _ _ _ _ _ _ _ (by rw [rec_bytes, enc5 c1, enc4 c2]; rfl) (by rw [rec_len, enc5 c1, enc4 c2]; rfl) c1 c2 rfl rfl rfl rfl rfl rfl rfl rfl rfl)
  · exact fin (read55_run (recOf t r) t r _ _ _ _ _ _ _ _ _ _ (by rw [rec_bytes, enc5 c1, enc5 c2]; rfl) (by rw [rec_len, enc5 c1, enc5 c2]; rfl) c1 c2 rfl rfl rfl rfl rfl rfl rfl rfl rfl rfl)
/-- Reading a record's text. -/
def readC (S : Sy) (rec : Int → Int → ByteArray) (args : List Value) (h : Hp) (K : Value → Hp → Prop) : Prop :=
  match args with
  | [a] => match den a with
    | .string s => ∃ t r : Int, (((S.ile 0 t ∧ S.ile t 1073741824) ∧ (S.ile 0 r ∧ S.ile r 1073741824)) ∧ s = rec t r) ∧ K (.tuple #[mk (.int .i64 t), mk (.int .i64 r), .bool true]) h
    | _ => False
  | _ => False
theorem readC_val {args : List Value} {h : Hp} {K : Value → Hp → Prop} (e : readC std recOf args h K) : ∃ v, LVal Try.prog 52 args v ∧ K v h := by
  unfold readC at e
  split at e
  case h_2 => exact e.elim
  rename_i a
  split at e
  case h_2 => exact e.elim
  rename_i s ha
  obtain ⟨t, r, ⟨⟨ht, hr⟩, hs⟩, hK⟩ := e
  exact ⟨_, read_val (by rw [ha, hs]) ht hr, hK⟩
theorem readC_ok : ∀ args h K, readC std recOf args h K → CallSem Try.prog 52 args h K := by
  intro args h K e
  obtain ⟨v, h1, h2⟩ := readC_val e
  exact h1.call h2
end Go.Proofs.Ytmhfnbbamoadgaa
