/-
  TEXTS: lengths, parts, beginnings.
-/
import Derived.Test.YtecdmdglkkeidaaAbs31
namespace Go.Abs
open Go
theorem sapp_data (a b : ByteArray) : (std.sapp a b).data.toList = a.data.toList ++ b.data.toList := by
  show (a ++ b).data.toList = _
  rw [ByteArray.data_append, Array.toList_append]
theorem slen_sapp (a b : ByteArray) : std.slen (std.sapp a b) = std.slen a + std.slen b := by
  show (std.sapp a b).data.toList.length = a.data.toList.length + b.data.toList.length
  rw [sapp_data, List.length_append]
theorem ssub_data (s : ByteArray) (l h : Nat) : (std.ssub s l h).data.toList = (s.data.toList.drop l).take (h - l) := rfl
theorem slen_ssub (s : ByteArray) (h : Nat) : std.slen (std.ssub s 0 h) = min h (std.slen s) := by
  show (std.ssub s 0 h).data.toList.length = min h s.data.toList.length
  rw [ssub_data, List.length_take, List.drop_zero, Nat.sub_zero]
theorem seq_iff (a b : ByteArray) : std.seq a b = true ↔ a.data.toList = b.data.toList := by
  show (a.data.toList == b.data.toList) = true ↔ _
  exact beq_iff_eq
/-- A text of no length is the empty one. -/
theorem seq_empty (s : ByteArray) : std.seq s ⟨#[]⟩ = decide (std.slen s = 0) := by
  have h : std.seq s ⟨#[]⟩ = true ↔ std.slen s = 0 := by
    rw [seq_iff]
    show s.data.toList = [] ↔ s.data.toList.length = 0
    exact List.length_eq_zero_iff.symm
  cases hs : std.seq s ⟨#[]⟩
  · have : ¬ std.slen s = 0 := fun e => by rw [h.2 e] at hs; cases hs
    rw [decide_eq_false this]
  · rw [decide_eq_true (h.1 hs)]
/-- What stands ahead of a text. -/
theorem seq_begin (a b : ByteArray) (k : Nat) (hk : std.slen a = k) : std.seq (std.ssub (std.sapp a b) 0 k) a = true := by
  rw [seq_iff, ssub_data, List.drop_zero, Nat.sub_zero, sapp_data]
  have : a.data.toList.length = k := hk
  rw [List.take_append_of_le_length (by omega), List.take_of_length_le (by omega)]
theorem seq_self (a : ByteArray) : std.seq a a = true := (seq_iff a a).2 rfl
end Go.Abs
