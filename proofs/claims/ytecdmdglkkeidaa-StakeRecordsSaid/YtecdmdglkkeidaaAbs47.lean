/-
  SEVENS OF BITS: a number as bytes; what the words for bits come to.
-/
import Derived.Test.YtecdmdglkkeidaaAbs31
import Derived.Laws.Bits128
namespace Go.Abs
open Go

theorem wraps62 (n : Int) (h0 : 0 ≤ n) (h1 : n < 2 ^ 62) : IntKind.i64.wrap n = n := by rw [IntKind.wrap_i64]; omega
theorem band127 (n : Int) : std.band .i64 n 127 = n % 128 := i64_and127 n
theorem band127_u8 {n : Int} (h : 0 ≤ n ∧ n < 256) : std.band .u8 n 127 = n % 128 := by
  have := bits_mask .u8 8 (by decide) wraps_u8 7 (by decide) n h.1 (by omega)
  exact this
theorem bor_join {i : Nat} {x y : Int} (hx : 0 ≤ x ∧ x < 2 ^ 62) (hm : x % 2 ^ i = 0) (hy : 0 ≤ y ∧ y < 2 ^ i) (hy1 : y < 2 ^ 62) : std.bor .i64 y x = x + y := by
  have h := bits_join .i64 62 (by decide) wraps62 i x y hx.1 hm hx.2 hy.1 hy.2 hy1
  have hc : bits .or .i64 y x = bits .or .i64 x y := by simp only [bits, BitVec.or_comm]
  show bits .or .i64 y x = _
  rw [hc, h]
theorem bor128 (n : Int) : std.bor .i64 (n % 128) 128 = n % 128 + 128 := by
  have := bor_join (i := 7) (x := 128) (y := n % 128) (by decide) (by decide) ⟨by omega, by omega⟩ (by omega)
  rw [this]; omega
theorem shr7 (n : Int) : std.shr .i64 n 7 = n / 128 := by
  show n.fdiv (2 ^ (min (7 : Int).toNat IntKind.i64.bits)) = _
  rw [Int.fdiv_eq_ediv_of_nonneg _ (by decide)]
  rfl
theorem wrap8 {n : Int} (h : 0 ≤ n ∧ n < 256) : std.wrap .u8 n = n := by
  show IntKind.u8.wrap n = n
  rw [IntKind.wrap_u8]; omega
theorem wrap64 {n : Int} (h : 0 ≤ n ∧ n < 256) : std.wrap .i64 n = n := wraps62 n h.1 (by omega)
/-- A byte that has others behind it. -/
theorem more_byte (n : Int) : std.wrap .u8 (std.bor .i64 (std.band .i64 n 127) 128) = n % 128 + 128 := by
  rw [band127, bor128, wrap8 ⟨by omega, by omega⟩]
theorem shl_small {x : Int} {s : Nat} (h : 0 ≤ x * 2 ^ s ∧ x * 2 ^ s < 2 ^ 62) (hs : s ≤ 64) : std.shl .i64 x (s : Int) = x * 2 ^ s := by
  show IntKind.i64.wrap (x * 2 ^ (min ((s : Nat) : Int).toNat IntKind.i64.bits)) = _
  rw [Int.toNat_natCast, show min s IntKind.i64.bits = s from Nat.min_eq_left hs]
  exact wraps62 _ h.1 h.2

/-- A number's bytes: sevens of bits, the lowest first; in the words for bits. -/
def encF : Nat → Int → List Int
  | 0, _ => []
  | k + 1, n => if 127 < n then std.wrap .u8 (std.bor .i64 (std.band .i64 n 127) 128) :: encF k (std.shr .i64 n 7) else [std.wrap .u8 n]
def enc (n : Int) : List Int := encF 6 n
/-- A record's text. -/
def recOf (t r : Int) : ByteArray := std.sof (enc t ++ enc r)
theorem wrap8_range (n : Int) : 0 ≤ std.wrap .u8 n ∧ std.wrap .u8 n < 256 := by
  have : std.wrap .u8 n = n % 256 := IntKind.wrap_u8 n
  omega
theorem encF_range : ∀ (k : Nat) (n : Int), ∀ x ∈ encF k n, 0 ≤ x ∧ x < 256
  | 0, n, x, h => by cases h
  | k + 1, n, x, h => by
    unfold encF at h
    split at h
    · rcases List.mem_cons.1 h with rfl | h
      · exact wrap8_range _
      · exact encF_range k _ x h
    · rw [List.mem_singleton.1 h]; exact wrap8_range _
theorem sbytes_sof {l : List Int} (h : ∀ x ∈ l, 0 ≤ x ∧ x < 256) : std.sbytes (std.sof l) = l := by
  show ((l.map fun n => UInt8.ofNat n.toNat).toArray.toList.map fun b => (b.toNat : Int)) = l
  rw [List.map_map]
  induction l with
  | nil => rfl
  | cons x l ih =>
    rw [List.map_cons, ih fun y hy => h y (List.mem_cons_of_mem _ hy)]
    have h1 := h x List.mem_cons_self
    congr 1
    show ((UInt8.ofNat x.toNat).toNat : Int) = x
    rw [UInt8.toNat_ofNat']
    omega
theorem slen_sof (l : List Int) : std.slen (std.sof l) = l.length := by
  show (l.map fun n => UInt8.ofNat n.toNat).toArray.toList.length = _
  rw [List.length_map]
theorem rec_bytes (t r : Int) : std.sbytes (recOf t r) = enc t ++ enc r := sbytes_sof fun x hx => by
  rcases List.mem_append.1 hx with h | h
  · exact encF_range _ _ x h
  · exact encF_range _ _ x h
theorem rec_len (t r : Int) : std.slen (recOf t r) = (enc t).length + (enc r).length := by
  unfold recOf
  rw [slen_sof, List.length_append]
end Go.Abs
