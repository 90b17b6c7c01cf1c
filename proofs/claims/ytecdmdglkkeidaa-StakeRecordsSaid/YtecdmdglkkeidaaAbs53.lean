/-
  NUMBERS READ OUT OF BYTES: what is read of a row, in the words for bits; it reads what was written, and nothing else.
-/
import Derived.Test.YtecdmdglkkeidaaAbs47
namespace Go.Abs
open Go

theorem acc_add {a e : Int} {s : Nat} (ha : 0 ≤ a ∧ a < 2 ^ s) (he : 0 ≤ e ∧ e < 256) (hs : s ≤ 35) : std.bor .i64 a (std.shl .i64 (std.wrap .i64 (std.band .u8 e 127)) (s : Int)) = a + e % 128 * 2 ^ s := by
  have hp : (2 : Int) ^ s ≤ 2 ^ 35 := by
    have := Nat.pow_le_pow_right (show 0 < 2 by omega) hs
    exact_mod_cast this
  have hp0 : (0 : Int) < 2 ^ s := by
    have := Nat.two_pow_pos s
    exact_mod_cast this
  have hm : 0 ≤ e % 128 ∧ e % 128 ≤ 127 := by omega
  have h1 : 0 ≤ e % 128 * 2 ^ s := Int.mul_nonneg hm.1 (Int.le_of_lt hp0)
  have h2 : e % 128 * 2 ^ s ≤ 127 * 2 ^ 35 := Int.mul_le_mul hm.2 hp (Int.le_of_lt hp0) (by omega)
  rw [band127_u8 he, wrap64 ⟨by omega, by omega⟩, shl_small ⟨h1, by omega⟩ (by omega)]
  rw [bor_join (i := s) (x := e % 128 * 2 ^ s) (y := a) ⟨h1, by omega⟩ (Int.mul_emod_left _ _) ha (by omega)]
  omega

def accS (acc b s : Int) : Int := std.bor .i64 acc (std.shl .i64 (std.wrap .i64 (std.band .u8 b 127)) s)
/-- What Number reads of bytes: the number, and how many bytes it has. -/
def numL : Nat → Int → Int → List Int → Option (Int × Nat)
  | 0, _, _, _ => none
  | _ + 1, _, _, [] => none
  | k + 1, s, acc, b :: l => if b < 128 then (if 1099511627775 < accS acc b s ∨ (b = 0 ∧ 0 < s) then none else some (accS acc b s, 1))
    else (numL k (s + 7) (accS acc b s) l).map fun x => (x.1, x.2 + 1)
def okN (l : List Int) : Prop := (numL 6 0 0 l).isSome = true
def valN (l : List Int) : Int := ((numL 6 0 0 l).getD (0, 0)).1
def advN (l : List Int) : Nat := ((numL 6 0 0 l).getD (0, 0)).2
def Bytes (l : List Int) : Prop := ∀ x ∈ l, 0 ≤ x ∧ x < 256

theorem pow_seven (j : Nat) : (2 : Int) ^ (7 * (j + 1)) = 2 ^ (7 * j) * 128 := by
  rw [show 7 * (j + 1) = 7 * j + 7 from by omega, Int.pow_add]; rfl
theorem pow_posI (s : Nat) : (0 : Int) < 2 ^ s := by
  have := Nat.two_pow_pos s
  exact_mod_cast this
theorem accS_at {acc b : Int} {j : Nat} (ha : 0 ≤ acc ∧ acc < 2 ^ (7 * j)) (hb : 0 ≤ b ∧ b < 256) (hj : j ≤ 5) : accS acc b (7 * (j : Int)) = acc + b % 128 * 2 ^ (7 * j) := by
  have := acc_add (s := 7 * j) ha hb (by omega)
  rw [show ((7 * j : Nat) : Int) = 7 * (j : Int) from by omega] at this
  exact this
theorem acc_next {acc e : Int} {j : Nat} (ha : 0 ≤ acc ∧ acc < 2 ^ (7 * j)) (he : 0 ≤ e ∧ e < 128) : 0 ≤ acc + e * 2 ^ (7 * j) ∧ acc + e * 2 ^ (7 * j) < 2 ^ (7 * (j + 1)) := by
  have hp := pow_posI (7 * j)
  have h1 : 0 ≤ e * 2 ^ (7 * j) := Int.mul_nonneg he.1 (Int.le_of_lt hp)
  have h2 : e * 2 ^ (7 * j) ≤ 127 * 2 ^ (7 * j) := Int.mul_le_mul (by omega) (Int.le_refl _) (Int.le_of_lt hp) (by omega)
  rw [pow_seven]
  omega
theorem split_mul (n p : Int) : n % 128 * p + n / 128 * (p * 128) = n * p := by
  have h : n = n % 128 + 128 * (n / 128) := by omega
  have h2 : n * p = (n % 128 + 128 * (n / 128)) * p := by rw [← h]
  rw [h2, Int.add_mul, Int.mul_comm p 128, ← Int.mul_assoc, Int.mul_comm (n / 128) 128]

theorem numL_encF : ∀ (k j : Nat) (acc n : Int) (rest : List Int), k + j = 6 → 0 ≤ acc ∧ acc < 2 ^ (7 * j) → 0 ≤ n → acc + n * 2 ^ (7 * j) ≤ 1099511627775 → n < 2 ^ (7 * k) → (n ≠ 0 ∨ j = 0) →
    numL k (7 * (j : Int)) acc (encF k n ++ rest) = some (acc + n * 2 ^ (7 * j), (encF k n).length)
  | 0, j, acc, n, rest, hk, ha, hn, hm, hlt, hz => by
    have : n < 1 := by simpa using hlt
    omega
  | k + 1, j, acc, n, rest, hk, ha, hn, hm, hlt, hz => by
    unfold encF
    split
    · rename_i h
      rw [more_byte, shr7]
      show numL (k + 1) (7 * (j : Int)) acc ((n % 128 + 128) :: (encF k (n / 128) ++ rest)) = _
      unfold numL
      rw [if_neg (by omega), accS_at ha ⟨by omega, by omega⟩ (by omega), show (n % 128 + 128) % 128 = n % 128 from by omega]
      have h1 := acc_next ha (e := n % 128) ⟨by omega, by omega⟩
      have h2 := split_mul n (2 ^ (7 * j))
      have h3 := pow_seven j
      have h4 : n / 128 < 2 ^ (7 * k) := by
        rw [show 7 * (k + 1) = 7 * k + 7 from by omega, Int.pow_add] at hlt
        have : (2 : Int) ^ 7 = 128 := rfl
        rw [this] at hlt
        omega
      rw [show (7 * (j : Int) + 7) = 7 * ((j + 1 : Nat) : Int) from by omega, numL_encF k (j + 1) _ (n / 128) rest (by omega) h1 (by omega) (by rw [h3]; omega) h4 (.inl (by omega))]
      rw [h3]
      simp only [Option.map_some, List.length_cons, Option.some.injEq, Prod.mk.injEq, and_true]
      omega
    · rename_i h
      rw [wrap8 ⟨hn, by omega⟩]
      show numL (k + 1) (7 * (j : Int)) acc (n :: rest) = _
      unfold numL
      rw [if_pos (by omega), accS_at ha ⟨hn, by omega⟩ (by omega), show n % 128 = n from by omega, if_neg (by omega)]
      rfl
/-- What is written is read. -/
theorem numL_enc {n : Int} (h : 0 ≤ n ∧ n ≤ 1099511627775) (rest : List Int) : numL 6 0 0 (enc n ++ rest) = some (n, (enc n).length) := by
  have := numL_encF 6 0 0 n rest rfl ⟨by omega, by decide⟩ h.1 (by simp; omega) (by
    have : (2 : Int) ^ (7 * 6) = 4398046511104 := by decide
    omega) (.inr rfl)
  simpa [enc] using this
theorem numL_only : ∀ (k j : Nat) (acc : Int) (l : List Int) (v : Int) (m : Nat), k + j = 6 → 0 ≤ acc ∧ acc < 2 ^ (7 * j) → Bytes l → numL k (7 * (j : Int)) acc l = some (v, m) →
    ∃ n, 0 ≤ n ∧ v = acc + n * 2 ^ (7 * j) ∧ v ≤ 1099511627775 ∧ l.take m = encF k n ∧ m = (encF k n).length ∧ m ≤ l.length ∧ (0 < j → n ≠ 0)
  | 0, j, acc, l, v, m, hk, ha, hb, e => by simp [numL] at e
  | k + 1, j, acc, [], v, m, hk, ha, hb, e => by simp [numL] at e
  | k + 1, j, acc, b :: l, v, m, hk, ha, hb, e => by
    have hb0 := hb b List.mem_cons_self
    unfold numL at e
    rw [accS_at ha hb0 (by omega)] at e
    split at e
    · rename_i h
      split at e
      · cases e
      · rename_i h2
        simp only [Option.some.injEq, Prod.mk.injEq] at e
        obtain ⟨rfl, rfl⟩ := e
        refine ⟨b, hb0.1, by rw [show b % 128 = b from by omega], by omega, ?_, ?_, ?_, fun hj hz => h2 (.inr ⟨hz, by omega⟩)⟩
        · unfold encF
          rw [if_neg (by omega), wrap8 hb0]; rfl
        · unfold encF
          rw [if_neg (by omega)]; rfl
        · simp
    · rename_i h
      cases hr : numL k (7 * (j : Int) + 7) (acc + b % 128 * 2 ^ (7 * j)) l with
      | none => rw [hr] at e; simp at e
      | some x =>
        obtain ⟨v', m'⟩ := x
        rw [hr] at e
        simp only [Option.map_some, Option.some.injEq, Prod.mk.injEq] at e
        obtain ⟨rfl, rfl⟩ := e
        rw [show (7 * (j : Int) + 7) = 7 * ((j + 1 : Nat) : Int) from by omega] at hr
        obtain ⟨n', h1, h2, h3, h4, h5, h6, h7⟩ := numL_only k (j + 1) _ l v' m' (by omega) (acc_next ha ⟨by omega, by omega⟩) (fun x hx => hb x (List.mem_cons_of_mem _ hx)) hr
        have h8 := h7 (by omega)
        have hq : (b % 128 + 128 * n') / 128 = n' := by omega
        have hr' : (b % 128 + 128 * n') % 128 + 128 = b := by omega
        have he : encF (k + 1) (b % 128 + 128 * n') = b :: encF k n' := by
          rw [encF, if_pos (by omega), more_byte, shr7, hq, hr']
        refine ⟨b % 128 + 128 * n', by omega, ?_, h3, ?_, ?_, by simpa using h6, fun _ => by omega⟩
        · rw [h2, pow_seven, Int.add_mul, Int.mul_comm (2 ^ (7 * j)) 128, ← Int.mul_assoc, Int.mul_comm n' 128]; omega
        · rw [he, List.take_succ_cons, h4]
        · rw [he, List.length_cons, ← h5]
/-- What is read has just these bytes. -/
theorem num_only {l : List Int} {v : Int} {m : Nat} (hb : Bytes l) (e : numL 6 0 0 l = some (v, m)) : 0 ≤ v ∧ v ≤ 1099511627775 ∧ l.take m = enc v ∧ m = (enc v).length ∧ m ≤ l.length := by
  obtain ⟨n, h1, h2, h3, h4, h5, h6, _⟩ := numL_only 6 0 0 l v m rfl ⟨by omega, by decide⟩ hb (by simpa using e)
  have : v = n := by simpa using h2
  subst this
  exact ⟨h1, h3, h4, h5, h6⟩
theorem encF_len : ∀ (k : Nat) (n : Int), (encF k n).length ≤ k
  | 0, _ => by simp [encF]
  | k + 1, n => by
    unfold encF
    split
    · rw [List.length_cons]; have := encF_len k (std.shr .i64 n 7); omega
    · simp
theorem enc_len (n : Int) : 1 ≤ (enc n).length ∧ (enc n).length ≤ 6 := by
  refine ⟨?_, encF_len 6 n⟩
  unfold enc encF
  split <;> simp
theorem enc_bytes (n : Int) : Bytes (enc n) := encF_range 6 n
theorem enc_inj {a b : Int} (ha : 0 ≤ a ∧ a ≤ 1099511627775) (hb : 0 ≤ b ∧ b ≤ 1099511627775) (h : enc a = enc b) : a = b := by
  have h1 := numL_enc ha []
  have h2 := numL_enc hb []
  rw [h, h2] at h1
  simp only [Option.some.injEq, Prod.mk.injEq] at h1
  exact h1.1.symm
/-- What is cut isn't read. -/
theorem numL_cut : ∀ (k j : Nat) (acc n : Int) (c : Nat), c < (encF k n).length → numL k (7 * (j : Int)) acc ((encF k n).take c) = none
  | 0, j, acc, n, c, h => by simp [encF] at h
  | k + 1, j, acc, n, 0, h => by simp [numL]
  | k + 1, j, acc, n, c + 1, h => by
    unfold encF at h ⊢
    split at h
    · rename_i hn
      rw [if_pos hn, List.take_succ_cons, more_byte]
      unfold numL
      rw [if_neg (by omega), show (7 * (j : Int) + 7) = 7 * ((j + 1 : Nat) : Int) from by omega, numL_cut k (j + 1) _ _ c (by simpa using h)]
      rfl
    · simp at h
theorem num_cut {n : Int} {c : Nat} (h : c < (enc n).length) : numL 6 0 0 ((enc n).take c) = none := by
  have := numL_cut 6 0 0 n c h
  simpa [enc] using this
theorem numL_adv' : ∀ {k : Nat} {s acc : Int} {l : List Int} {v : Int} {m : Nat}, numL k s acc l = some (v, m) → m ≤ l.length
  | 0, _, _, _, _, _, e => by simp [numL] at e
  | k + 1, _, _, [], _, _, e => by simp [numL] at e
  | k + 1, s, acc, b :: l, v, m, e => by
    unfold numL at e
    split at e
    · split at e
      · cases e
      · simp only [Option.some.injEq, Prod.mk.injEq] at e
        rw [← e.2, List.length_cons]; omega
    · cases hr : numL k (s + 7) (accS acc b s) l with
      | none => rw [hr] at e; cases e
      | some x =>
        rw [hr] at e
        simp only [Option.map_some, Option.some.injEq, Prod.mk.injEq] at e
        have := numL_adv' (v := x.1) (m := x.2) hr
        rw [← e.2, List.length_cons]; omega
theorem numL_adv {l : List Int} {v : Int} {m : Nat} (e : numL 6 0 0 l = some (v, m)) : m ≤ l.length := numL_adv' e
theorem num_nil : numL 6 0 0 [] = none := rfl
theorem part_cons {o n : Nat} {xs : List Int} (hn : 0 < n) (h : o + n ≤ xs.length) : (xs.drop o).take n = xs.getD o 0 :: (xs.drop (o + 1)).take (n - 1) := by
  obtain ⟨m, rfl⟩ : ∃ m, n = m + 1 := ⟨n - 1, by omega⟩
  rw [List.drop_eq_getElem_cons (show o < xs.length by omega), List.take_succ_cons, List.getD_eq_getElem?_getD, List.getElem?_eq_getElem (show o < xs.length by omega)]
  rfl
end Go.Abs
