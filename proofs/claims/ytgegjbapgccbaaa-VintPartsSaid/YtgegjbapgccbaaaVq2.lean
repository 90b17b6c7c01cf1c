/-
  VintParts: many numbers, texts at once are each by itself; sevens of bits are bytes.
-/
import Derived.Test.YtgegjbapgccbaaaVq1
import Derived.Test.YtgegjbapgccbaaaFw5
import Derived.Test.YtgegjbapgccbaaaRows
section
namespace Go.Proofs.Ytgegjbapgccbaaa
open Go Go.Abs Go.RowKit Go.ChangeShapes Go.WideShapes Go.ChangeAt
set_option maxRecDepth 100000
noncomputable def ownL (ns : List Value) : Nat → List Value
  | 0 => []
  | i + 1 => ownL ns i ++ [.int .i64 (kvF.wi (eI ns i) 0 1099511627775)]
noncomputable def cutS (s : ByteArray) : ByteArray := std.ssub s 0 (Int.toNat (std.imin ((std.slen s) : Int) 130))
noncomputable def tsL (ss : List Value) : Nat → List Value
  | 0 => []
  | i + 1 => tsL ss i ++ [.string (cutS (eS ss i))]
theorem own_ok (ns : List Value) : ∀ i, (ownL ns i).length = i ∧ ∀ j, j < i → 0 ≤ eI (ownL ns i) j ∧ eI (ownL ns i) j ≤ 1099511627775
  | 0 => ⟨rfl, fun j h => by omega⟩
  | i + 1 => by
    obtain ⟨h1, h2⟩ := own_ok ns i
    refine ⟨by show (ownL ns i ++ [_]).length = _; rw [List.length_append, h1]; rfl, fun j hj => ?_⟩
    show 0 ≤ dint ((ownL ns i ++ [_]).getD j zI) ∧ dint ((ownL ns i ++ [_]).getD j zI) ≤ _
    by_cases e : j < i
    · rw [getD_app_l (by omega)]; exact h2 j e
    · have e : j = (ownL ns i).length := by omega
      rw [e, getD_app_r]
      exact wi_in2 (by omega)
theorem cut_len (s : ByteArray) : lenB (cutS s) ≤ 130 := by
  show (((s.data.toList.drop 0).take (Int.toNat (if (130 : Int) < (lenB s : Int) then 130 else (lenB s : Int)) - 0)).toArray.toList).length ≤ 130
  rw [List.toList_toArray, List.length_take]
  split <;> omega
theorem ts_ok (ss : List Value) : ∀ i, (tsL ss i).length = i ∧ ∀ j, j < i → lenB (eS (tsL ss i) j) ≤ 130
  | 0 => ⟨rfl, fun j h => by omega⟩
  | i + 1 => by
    obtain ⟨h1, h2⟩ := ts_ok ss i
    refine ⟨by show (tsL ss i ++ [_]).length = _; rw [List.length_append, h1]; rfl, fun j hj => ?_⟩
    show lenB (dstr ((tsL ss i ++ [_]).getD j zS)) ≤ _
    by_cases e : j < i
    · rw [getD_app_l (by omega)]; exact h2 j e
    · have e : j = (tsL ss i).length := by omega
      rw [e, getD_app_r]
      exact cut_len _
theorem numsL_len2 (xs : List Value) : ∀ i, (numsL xs i).length ≤ 7 * i
  | 0 => Nat.zero_le _
  | i + 1 => by
    have h1 := numsL_len2 xs i
    have h2 := one1_len (eI xs i)
    unfold numsL
    rw [List.length_append]; omega
theorem txL_len2 {xs : List Value} (hl : ∀ i, i < xs.length → lenB (eS xs i) ≤ 130) : ∀ i, i ≤ xs.length → (txL xs i).length ≤ i * 137
  | 0, _ => by simp [txL]
  | i + 1, h => by
    have h1 := txL_len2 hl i (by omega)
    have h2 := hl i (by omega)
    have h3 := one1_len (lenB (eS xs i) : Int)
    unfold txL
    rw [List.length_append, List.length_append, svals_len]
    omega
theorem eI_last (l : List Value) (n : Int) {i : Nat} (h : l.length = i) : eI (l ++ [.int .i64 n]) i = n := by
  subst h; unfold eI; rw [getD_app_r]; rfl
theorem eS_last (l : List Value) (s : ByteArray) {i : Nat} (h : l.length = i) : eS (l ++ [.string s]) i = s := by
  subst h; unfold eS; rw [getD_app_r]; rfl
noncomputable def sevN (j : Int) : Int := std.shl .i64 1 (std.wrap .u64 (7 * j))
theorem seven {j : Int} (h : 1 ≤ j ∧ j ≤ 5) : 0 ≤ std.wrap .u64 (7 * j) ∧ 1 ≤ sevN j ∧ sevN j ≤ 1099511627775 ∧ ((one1F (sevN j)).length : Int) = j + 1 ∧ ((one1F (sevN j - 1)).length : Int) = j := by
  have hj : j = 1 ∨ j = 2 ∨ j = 3 ∨ j = 4 ∨ j = 5 := by omega
  have e : ∀ n : Int, 0 ≤ n → n < 64 → std.wrap .u64 n = n := fun n h0 h1 => by
    show n % 18446744073709551616 = n
    omega
  have s1 : sevN 1 = 128 := by kernel_rfl
  have s2 : sevN 2 = 16384 := by kernel_rfl
  have s3 : sevN 3 = 2097152 := by kernel_rfl
  have s4 : sevN 4 = 268435456 := by kernel_rfl
  have s5 : sevN 5 = 34359738368 := by kernel_rfl
  rcases hj with rfl | rfl | rfl | rfl | rfl
  · rw [s1]; exact ⟨by rw [e _ (by omega) (by omega)]; omega, by omega, by omega, by kernel_rfl, by kernel_rfl⟩
  · rw [s2]; exact ⟨by rw [e _ (by omega) (by omega)]; omega, by omega, by omega, by kernel_rfl, by kernel_rfl⟩
  · rw [s3]; exact ⟨by rw [e _ (by omega) (by omega)]; omega, by omega, by omega, by kernel_rfl, by kernel_rfl⟩
  · rw [s4]; exact ⟨by rw [e _ (by omega) (by omega)]; omega, by omega, by omega, by kernel_rfl, by kernel_rfl⟩
  · rw [s5]; exact ⟨by rw [e _ (by omega) (by omega)]; omega, by omega, by omega, by kernel_rfl, by kernel_rfl⟩
theorem eq_no {a b : Int} {P : Prop} (h : a = b) (h2 : (a == b) = false) : P := by rw [h] at h2; simp at h2
theorem ne_no {a b : Int} {P : Prop} (h : a = b) (h2 : (!(a == b)) = true) : P := by rw [h] at h2; simp at h2
def vpI (ns : List Value) (d : VpA) : Prop := ∃ i : Nat, d.i = i ∧ i ≤ 9 ∧ i ≤ ns.length ∧ d.o = ownL ns i ∧ d.b = numsF (ownL ns i)
def vpJ (ss : List Value) (d : VpA) : Prop := ∃ i : Nat, d.i = i ∧ i ≤ 4 ∧ i ≤ ss.length ∧ d.o = tsL ss i ∧ d.b = txF (tsL ss i)
def vpG (own texts : List Value) (d : VpC) : Prop := d.bad = false ∧ d.n = (own.length : Int) ∧ ∃ i : Nat, d.i = i ∧ i ≤ own.length ∧ d.rb = numsD own i (own.length - i) ++ txF texts
def vpH (texts : List Value) (d : VpC) : Prop := d.bad = false ∧ d.n = (texts.length : Int) ∧ ∃ i : Nat, d.i = i ∧ i ≤ texts.length ∧ d.rb = txD texts i (texts.length - i)
theorem txD_len {xs : List Value} (hl : ∀ i, i < xs.length → lenB (eS xs i) ≤ 130) : ∀ k i, i + k ≤ xs.length → (txD xs i k).length ≤ k * 137
  | 0, i, _ => by simp [txD]
  | k + 1, i, h => by
    have h1 := txD_len hl k (i + 1) (by omega)
    have h2 := hl i (by omega)
    have h3 := one1_len (lenB (eS xs i) : Int)
    unfold txD
    rw [List.length_append, List.length_append, svals_len]
    omega
theorem l1_ok {k : Int} {texts : List Value} {d : VpC} (hk : -9223372036854775808 ≤ k ∧ k ≤ 9223372036854775807) (ht : texts.length ≤ 4) (hl : ∀ j, j < texts.length → lenB (eS texts j) ≤ 130) (hb : d.bad = false) (hd : d.rb = txF texts) :
    vp_vc_L1 kvF stF vpF k texts (vpH texts) (fun d => (d.n - d.i).toNat) d := by
  obtain ⟨rb, bad, n, i⟩ := d
  dsimp only at hb hd
  subst hb hd
  unfold vp_vc_L1
  dsimp only
  have h0 : txF texts = txD texts 0 texts.length := by have := txD_eq texts texts.length 0; rw [Nat.zero_add] at this; exact this.symm
  refine ⟨{ n := ((List.length texts) : Int), i := (0 : Int), rb := txF texts, bad := false }, rfl, ⟨rfl, rfl, 0, rfl, Nat.zero_le _, h0⟩, fun ⟨rb, bad, n, i⟩ => fun ⟨hb, hn, i, hi, hle, hr⟩ => ⟨fun h2 => ?_, fun h5 => ?_⟩⟩
  · dsimp only at hb hn hi hr h2 ⊢
    subst hb hn hi hr
    have h2 := of_decide_eq_true h2
    have hi : i < texts.length := by omega
    obtain ⟨m, hm⟩ : ∃ m, texts.length - i = m + 1 := ⟨texts.length - i - 1, by omega⟩
    have hlen := txD_len hl (texts.length - i) i (by omega)
    have hs := hl i hi
    have hrb : txD texts i (texts.length - i) = (one1F (lenB (eS texts i) : Int) ++ std.svals (eS texts i)) ++ txD texts (i + 1) m := by rw [hm]; rfl
    obtain ⟨t1, t2, t3⟩ := tx_back (eS texts i) (by omega) (txD texts (i + 1) m)
    have hl4 : (txD texts i (texts.length - i)).length ≤ 4000000 := by
      have : (texts.length - i) * 137 ≤ 4 * 137 := Nat.mul_le_mul_right _ (by omega)
      omega
    rw [Int.toNat_natCast]
    rw [← hrb] at t1 t2 t3
    refine ⟨by omega, ⟨hl4, ⟨fun h3 => ?_, fun h4 => ⟨by omega, ⟨{ n := (texts.length : Int), i := ((i : Int) + (1 : Int)), rb := vpF.txr (txD texts i (texts.length - i)) false, bad := vpF.txb (txD texts i (texts.length - i)) false }, rfl, ?_, ⟨t3, rfl, i + 1, by show (i : Int) + 1 = _; omega, hi, ?_⟩⟩⟩⟩⟩⟩
    · have h3 : (!eqB (vpF.txs (txD texts i (texts.length - i)) false) (eS texts i)) = true := h3
      rw [t1, eqB_iff.2 rfl] at h3; cases h3
    · show ((texts.length : Int) - ((i : Int) + 1)).toNat + 1 ≤ ((texts.length : Int) - (i : Int)).toNat
      omega
    · show vpF.txr _ false = _
      rw [t2, show texts.length - (i + 1) = m by omega]
  · dsimp only at hb hn hi hr h5 ⊢
    subst hb hn hi hr
    have h5 := of_decide_eq_false h5
    have hi : i = texts.length := by omega
    subst hi
    rw [Nat.sub_self]
    have hj := wi_in2 (n := k) (lo := 1) (hi := 5) (by omega)
    obtain ⟨s0, s1, s2, s3, s4⟩ := seven hj
    generalize kvF.wi k 1 5 = j at hj s0 s1 s2 s3 s4 ⊢
    have one : ∀ (v : Int), -9223372036854775808 ≤ v → v ≤ 9223372036854775807 → ∀ i37 : Nat, i37 < [Value.int IntKind.i64 v].length → -9223372036854775808 ≤ eI [Value.int IntKind.i64 v] i37 ∧ eI [Value.int IntKind.i64 v] i37 ≤ 9223372036854775807 := fun v a b i hi => by
      have : i = 0 := by simpa using hi
      subst this; exact ⟨a, b⟩
    have l1 : ∀ v : Int, [Value.int IntKind.i64 v].length ≤ 1000000 := fun v => by show 1 ≤ 1000000; omega
    have sv : std.shl .i64 1 (std.wrap .u64 (7 * j)) = sevN j := rfl
    rw [sv]
    have p1 : stF.put [Value.int .i64 (sevN j)] = one1F (sevN j) := rfl
    have p2 : stF.put [Value.int .i64 (sevN j - 1)] = one1F (sevN j - 1) := rfl
    have p3 : ((stF.put [Value.int .i64 1099511627775]).length : Int) = 6 := by
      show ((one1F 1099511627775).length : Int) = 6
      kernel_rfl
    rw [p1, p2]
    refine ⟨⟨hk, by omega, by omega, by omega⟩, ⟨by omega, ⟨s0, ⟨⟨l1 _, one _ (by omega) (by omega)⟩, ⟨(fun h7 => nomatch h7), fun h8 => ⟨fun h9 => ⟨by omega, ⟨fun h10 => ⟨by omega, ⟨s0, ⟨by omega, ⟨⟨l1 _, one _ (by omega) (by omega)⟩, ⟨fun h12 => ⟨⟨l1 _, one _ (by omega) (by omega)⟩, ⟨fun h14 => rfl, eq_no p3⟩⟩, eq_no s4⟩⟩⟩⟩⟩, eq_no s3⟩⟩, eq_no rfl⟩⟩⟩⟩⟩⟩
theorem l2_ok {k : Int} {own texts : List Value} {d : VpA} (ho9 : own.length ≤ 9) (hk : -9223372036854775808 ≤ k ∧ k ≤ 9223372036854775807) (ho : ∀ j, j < own.length → 0 ≤ eI own j ∧ eI own j ≤ 1099511627775) (ht : texts.length ≤ 4) (hl : ∀ j, j < texts.length → lenB (eS texts j) ≤ 130) (e1 : d.b = txF texts) (e2 : d.o = texts) :
    vp_vc_L2 kvF stF vpF k (numsF own) own texts (vpG own texts) (fun d => (d.n - d.i).toNat) (vpH texts) (fun d => (d.n - d.i).toNat) d := by
  obtain ⟨b, o, i⟩ := d
  dsimp only at e1 e2
  subst e1 e2
  unfold vp_vc_L2
  dsimp only
  have h0 : numsF own = numsD own 0 own.length := by have := numsD_eq own own.length 0; rw [Nat.zero_add] at this; exact this.symm
  refine ⟨{ n := ((List.length own) : Int), i := (0 : Int), rb := (numsF own ++ txF o), bad := false }, rfl, ⟨rfl, rfl, 0, rfl, Nat.zero_le _, by rw [h0]; rfl⟩, fun ⟨rb, bad, n, i⟩ => fun ⟨hb, hn, i, hi, hle, hr⟩ => ⟨fun h2 => ?_, fun h5 => ?_⟩⟩
  · dsimp only at hb hn hi hr h2 ⊢
    subst hb hn hi hr
    have h2 := of_decide_eq_true h2
    have hi : i < own.length := by omega
    obtain ⟨m, hm⟩ : ∃ m, own.length - i = m + 1 := ⟨own.length - i - 1, by omega⟩
    have hrb : numsD own i (own.length - i) ++ txF o = one1F (eI own i) ++ (numsD own (i + 1) m ++ txF o) := by rw [hm, ← List.append_assoc]; rfl
    have hn := num_one (ho i hi).1 (ho i hi).2 (numsD own (i + 1) m ++ txF o)
    rw [← hrb] at hn
    have t1 : stF.numn (numsD own i (own.length - i) ++ txF o) false = eI own i := congrArg (·.1) hn
    have t2 : stF.numr (numsD own i (own.length - i) ++ txF o) false = numsD own (i + 1) m ++ txF o := congrArg (·.2.1) hn
    have t3 : stF.numb (numsD own i (own.length - i) ++ txF o) false = false := congrArg (·.2.2) hn
    rw [Int.toNat_natCast]
    refine ⟨by omega, ⟨trivial, ⟨ne_no t1, fun h4 => ⟨by omega, ⟨{ n := (own.length : Int), i := ((i : Int) + (1 : Int)), rb := stF.numr (numsD own i (own.length - i) ++ txF o) false, bad := stF.numb (numsD own i (own.length - i) ++ txF o) false }, rfl, ?_, ⟨t3, rfl, i + 1, by show (i : Int) + 1 = _; omega, hi, ?_⟩⟩⟩⟩⟩⟩
    · show ((own.length : Int) - ((i : Int) + 1)).toNat + 1 ≤ ((own.length : Int) - (i : Int)).toNat
      omega
    · show stF.numr _ false = _
      rw [t2, show own.length - (i + 1) = m by omega]
  · dsimp only at hb hn hi hr h5 ⊢
    have h5 := of_decide_eq_false h5
    have hi : i = own.length := by omega
    subst hi
    rw [Nat.sub_self] at hr
    exact l1_ok hk ht hl hb hr
theorem l3_ok {ns ss : List Value} {k : Int} {d : VpA} (hk : -9223372036854775808 ≤ k ∧ k ≤ 9223372036854775807) (e1 : d.o = ownL ns (min ns.length 9)) (e2 : d.b = numsF (ownL ns (min ns.length 9))) :
    vp_vc_L3 kvF stF vpF ss k (numsF (ownL ns (min ns.length 9))) (ownL ns (min ns.length 9)) (tsL ss (min ss.length 4)) (vpJ ss) (fun d => (4 - d.i).toNat) (vpG (ownL ns (min ns.length 9)) (tsL ss (min ss.length 4))) (fun d => (d.n - d.i).toNat) (vpH (tsL ss (min ss.length 4))) (fun d => (d.n - d.i).toNat) d := by
  obtain ⟨b, o, i⟩ := d
  dsimp only at e1 e2
  subst e1 e2
  obtain ⟨o1, o2⟩ := own_ok ns (min ns.length 9)
  obtain ⟨t1, t2⟩ := ts_ok ss (min ss.length 4)
  unfold vp_vc_L3
  dsimp only
  refine ⟨{ b := [], o := [], i := (0 : Int) }, rfl, ⟨0, rfl, by omega, Nat.zero_le _, rfl, rfl⟩, fun ⟨b, o, i⟩ => fun ⟨i, hi, h4, hle, ho, hb⟩ => ?_⟩
  dsimp only at hi ho hb
  subst hi ho hb
  dsimp only
  have fin : i = min ss.length 4 → ((ownL ns (min ns.length 9)).length ≤ 1000000 ∧ ∀ i28 : Nat, i28 < (ownL ns (min ns.length 9)).length → -9223372036854775808 ≤ eI (ownL ns (min ns.length 9)) i28 ∧ eI (ownL ns (min ns.length 9)) i28 ≤ 9223372036854775807) ∧ (numsF (ownL ns (min ns.length 9))).length ≤ 1000000 ∧ (tsL ss i).length ≤ 5 ∧ (∀ i29 : Nat, i29 < (tsL ss i).length → lenB (eS (tsL ss i) i29) ≤ 1000000) ∧ (txF (tsL ss i)).length ≤ 1000000 ∧ (numsF (ownL ns (min ns.length 9)) ++ txF (tsL ss i)).length ≤ 4000000 ∧ vp_vc_L2 kvF stF vpF k (numsF (ownL ns (min ns.length 9))) (ownL ns (min ns.length 9)) (tsL ss (min ss.length 4)) (vpG (ownL ns (min ns.length 9)) (tsL ss (min ss.length 4))) (fun d => (d.n - d.i).toNat) (vpH (tsL ss (min ss.length 4))) (fun d => (d.n - d.i).toNat) { b := txF (tsL ss i), o := tsL ss i, i := (i : Int) } := fun hi => by
    subst hi
    have n1 := numsL_len2 (ownL ns (min ns.length 9)) (ownL ns (min ns.length 9)).length
    have n2 := txL_len2 (xs := tsL ss (min ss.length 4)) (fun j hj => t2 j (by omega)) (tsL ss (min ss.length 4)).length (Nat.le_refl _)
    have n1 : (numsF (ownL ns (min ns.length 9))).length ≤ 63 := by show (numsL _ _).length ≤ 63; omega
    have n2 : (txF (tsL ss (min ss.length 4))).length ≤ 548 := by
      show (txL _ _).length ≤ 548
      have : (tsL ss (min ss.length 4)).length * 137 ≤ 4 * 137 := Nat.mul_le_mul_right _ (by omega)
      omega
    refine ⟨⟨by omega, fun j hj => by have := o2 j (by omega); omega⟩, by omega, by omega, fun j hj => by have := t2 j (by omega); omega, by omega, by rw [List.length_append]; omega, ?_⟩
    exact l2_ok (by omega) hk (fun j hj => o2 j (by omega)) (by omega) (fun j hj => t2 j (by omega)) rfl rfl
  have sames : ∀ {P : Prop} {l : List Value}, kvF.sameb l l = false → P := fun {P l} h => by
    have h : samebF l l = false := h
    rw [sameb_self] at h; cases h
  refine ⟨fun h2 => ⟨fun h3 => ?_, fun h5 => ?_⟩, fun h12 => ?_⟩
  · have h2 := of_decide_eq_true h2
    have h3 := of_decide_eq_true h3
    have hi : i < ss.length := by omega
    have h4 : i < 4 := by omega
    rw [Int.toNat_natCast]
    obtain ⟨q1, q2⟩ := ts_ok ss i
    have hc := cut_len (eS ss i)
    have hcs : std.ssub (eS ss i) 0 (Int.toNat (std.imin ((std.slen (eS ss i)) : Int) 130)) = cutS (eS ss i) := rfl
    rw [hcs, eS_last _ _ q1]
    have n2 := txL_len2 (xs := tsL ss i) (fun j hj => q2 j (by omega)) (tsL ss i).length (Nat.le_refl _)
    have n2 : (txF (tsL ss i)).length ≤ 411 := by
      show (txL _ _).length ≤ 411
      have : (tsL ss i).length * 137 ≤ 3 * 137 := Nat.mul_le_mul_right _ (by omega)
      omega
    have n3 := one1_len (lenB (cutS (eS ss i)) : Int)
    have him : (0 : Int) ≤ std.imin ((std.slen (eS ss i)) : Int) 130 ∧ std.imin ((std.slen (eS ss i)) : Int) 130 ≤ ((std.slen (eS ss i)) : Int) := by
      have : std.imin ((std.slen (eS ss i)) : Int) 130 = if (130 : Int) < ((std.slen (eS ss i)) : Int) then 130 else ((std.slen (eS ss i)) : Int) := rfl
      rw [this]
      split <;> omega
    have hlen : (tsL ss i ++ [Value.string (cutS (eS ss i))]).length = i + 1 := by rw [List.length_append, q1]; rfl
    have htx : vpF.text [Value.string (cutS (eS ss i))] = one1F (lenB (cutS (eS ss i)) : Int) ++ std.svals (cutS (eS ss i)) := rfl
    have hs1 : ∀ i28 : Nat, i28 < [Value.string (cutS (eS ss i))].length → std.slen (eS [Value.string (cutS (eS ss i))] i28) ≤ 1000000 := fun j hj => by
      have : j = 0 := by simpa using hj
      subst this
      show lenB (cutS (eS ss i)) ≤ _
      omega
    rw [htx]
    refine ⟨by omega, ⟨by omega, ⟨⟨him, trivial⟩, ⟨by omega, ⟨by omega, ⟨⟨by show 1 ≤ 5; omega, hs1⟩, ⟨?_, ⟨by omega, ⟨{ b := txF (tsL ss i) ++ (one1F (lenB (cutS (eS ss i)) : Int) ++ std.svals (cutS (eS ss i))), o := tsL ss i ++ [Value.string (cutS (eS ss i))], i := ((i : Int) + (1 : Int)) }, rfl, ?_, ⟨i + 1, by show (i : Int) + 1 = _; omega, by omega, hi, rfl, ?_⟩⟩⟩⟩⟩⟩⟩⟩⟩⟩
    · rw [List.length_append, List.length_append, svals_len]; omega
    · show (4 - ((i : Int) + 1)).toNat + 1 ≤ (4 - (i : Int)).toNat
      omega
    · show _ = txF (tsL ss i ++ [Value.string (cutS (eS ss i))])
      rw [tx_app]
  · have h2 := of_decide_eq_true h2
    have h5 := of_decide_eq_false h5
    have F := fin (by omega)
    have n1 := F.2.1
    have n2 := F.2.2.2.2.2.1
    exact ⟨F.1, ⟨F.2.1, ⟨fun h7 => ⟨⟨F.2.2.1, F.2.2.2.1⟩, ⟨F.2.2.2.2.1, ⟨fun h9 => ⟨by omega, ⟨by omega, ⟨F.2.2.2.2.2.1, F.2.2.2.2.2.2⟩⟩⟩, fun h10 => sames h10⟩⟩⟩, fun h11 => sames h11⟩⟩⟩
  · have h12 := of_decide_eq_false h12
    have F := fin (by omega)
    have n1 := F.2.1
    have n2 := F.2.2.2.2.2.1
    exact ⟨F.1, ⟨F.2.1, ⟨fun h7 => ⟨⟨F.2.2.1, F.2.2.2.1⟩, ⟨F.2.2.2.2.1, ⟨fun h9 => ⟨by omega, ⟨by omega, ⟨F.2.2.2.2.2.1, F.2.2.2.2.2.2⟩⟩⟩, fun h10 => sames h10⟩⟩⟩, fun h11 => sames h11⟩⟩⟩
theorem vp_run (ns ss : List Value) (k : Int) (hn : IntsOk ns) (hk : -9223372036854775808 ≤ k ∧ k ≤ 9223372036854775807) : Holds (runP std (vpCon std kvF stF vpF) 90 (vpLs ns ss k (numsF (ownL ns (min ns.length 9))) (ownL ns (min ns.length 9)) (tsL ss (min ss.length 4)) (vpI ns) (fun d => (9 - d.i).toNat) (vpJ ss) (fun d => (4 - d.i).toNat) (vpG (ownL ns (min ns.length 9)) (tsL ss (min ss.length 4))) (fun d => (d.n - d.i).toNat) (vpH (tsL ss (min ss.length 4))) (fun d => (d.n - d.i).toNat)) vpP 7 Try.f7 (ns, ss, k, ())) := by
  constructor
  have vc := vp_vc kvF stF vpF ns ss k (numsF (ownL ns (min ns.length 9))) (ownL ns (min ns.length 9)) (tsL ss (min ss.length 4)) (vpI ns) (fun d => (9 - d.i).toNat) (vpJ ss) (fun d => (4 - d.i).toNat) (vpG (ownL ns (min ns.length 9)) (tsL ss (min ss.length 4))) (fun d => (d.n - d.i).toNat) (vpH (tsL ss (min ss.length 4))) (fun d => (d.n - d.i).toNat)
  refine vc.mpr ?_
  unfold vp_vc_L4
  refine ⟨{ b := [], o := [], i := (0 : Int) }, rfl, ⟨0, rfl, by omega, Nat.zero_le _, rfl, rfl⟩, fun ⟨b, o, i⟩ => fun ⟨i, hi, h9, hle, ho, hb⟩ => ⟨fun h2 => ⟨fun h3 => ?_, fun h5 => ?_⟩, fun h6 => ?_⟩⟩
  · dsimp only at hi ho hb h2 h3 ⊢
    subst hi ho hb
    have h2 := of_decide_eq_true h2
    have h3 := of_decide_eq_true h3
    have hi : i < ns.length := by omega
    rw [Int.toNat_natCast]
    obtain ⟨q1, q2⟩ := own_ok ns i
    have hw := wi_in2 (n := eI ns i) (lo := 0) (hi := 1099511627775) (by omega)
    rw [eI_last _ _ q1]
    have hlen : (ownL ns i ++ [Value.int .i64 (kvF.wi (eI ns i) 0 1099511627775)]).length = i + 1 := by rw [List.length_append, q1]; rfl
    have n1 := numsL_len2 (ownL ns i) (ownL ns i).length
    have n1 : (numsF (ownL ns i)).length ≤ 63 := by show (numsL _ _).length ≤ 63; omega
    have n2 := one1_len (kvF.wi (eI ns i) 0 1099511627775)
    have hp : stF.put [Value.int .i64 (kvF.wi (eI ns i) 0 1099511627775)] = one1F (kvF.wi (eI ns i) 0 1099511627775) := rfl
    rw [hp]
    have one : ∀ i37 : Nat, i37 < [Value.int IntKind.i64 (kvF.wi (eI ns i) 0 1099511627775)].length → -9223372036854775808 ≤ eI [Value.int IntKind.i64 (kvF.wi (eI ns i) 0 1099511627775)] i37 ∧ eI [Value.int IntKind.i64 (kvF.wi (eI ns i) 0 1099511627775)] i37 ≤ 9223372036854775807 := fun j hj => by
      have : j = 0 := by simpa using hj
      subst this
      show -9223372036854775808 ≤ kvF.wi (eI ns i) 0 1099511627775 ∧ kvF.wi (eI ns i) 0 1099511627775 ≤ _
      omega
    refine ⟨by omega, ⟨⟨hn i hi, by omega, by omega, by omega⟩, ⟨by omega, ⟨by omega, ⟨⟨by show 1 ≤ 1000000; omega, one⟩, ⟨by rw [List.length_append]; omega, ⟨by omega, ⟨{ b := numsF (ownL ns i) ++ one1F (kvF.wi (eI ns i) 0 1099511627775), o := ownL ns i ++ [Value.int .i64 (kvF.wi (eI ns i) 0 1099511627775)], i := ((i : Int) + (1 : Int)) }, rfl, ?_, ⟨i + 1, by show (i : Int) + 1 = _; omega, by omega, hi, rfl, ?_⟩⟩⟩⟩⟩⟩⟩⟩⟩
    · show (9 - ((i : Int) + 1)).toNat + 1 ≤ (9 - (i : Int)).toNat
      omega
    · show _ = numsF (ownL ns i ++ [_])
      rw [nums_app]; rfl
  · dsimp only at hi ho hb h2 h5
    have h2 := of_decide_eq_true h2
    have h5 := of_decide_eq_false h5
    have e : i = min ns.length 9 := by omega
    rw [e] at ho hb
    exact l3_ok hk ho hb
  · dsimp only at hi ho hb h6
    have h6 := of_decide_eq_false h6
    have e : i = min ns.length 9 := by omega
    rw [e] at ho hb
    exact l3_ok hk ho hb
theorem vintRuns_closed : (callN vbeq Try.prog X0 1000 3 [] H0).map (·.1) = some (.bool true) := by rw [callF_eq]; kernel_rfl
theorem vpCon_ok : ConOk Try.prog (vpCon std kvF stF vpF) := conL_ok fun x hx => by
  simp only [List.mem_cons, List.not_mem_nil, or_false] at hx
  rcases hx with rfl | rfl | rfl | rfl | rfl | rfl | rfl | rfl
  · exact pcon_ok wi_ok
  · exact pcon_ok put_ok
  · exact pcon_ok txtQ_ok
  · exact pcon_ok sameb_ok
  · exact read_ok.sem
  · exact num_ok.sem
  · exact txtO_ok.sem
  · exact closedC_ok (knownOk_none _) Try.func3 (show _ = some (bodyS Try.prog 3) by kernel_rfl) rfl vintRuns_closed
noncomputable def vpQ : PF := pf (.cons cIs (.cons cSs (.cons cI64 .nil))) (fun d => IntsOk d.1 ∧ (-9223372036854775808 ≤ d.2.2.1 ∧ d.2.2.1 ≤ 9223372036854775807)) [.bool false] fun _ => [.bool true]
theorem vp_ok : PFOk Try.prog 7 vpQ :=
  pf_ok (LS := fun d => vpLs d.1 d.2.1 d.2.2.1 (numsF (ownL d.1 (min d.1.length 9))) (ownL d.1 (min d.1.length 9)) (tsL d.2.1 (min d.2.1.length 4)) (vpI d.1) (fun d => (9 - d.i).toNat) (vpJ d.2.1) (fun d => (4 - d.i).toNat) (vpG (ownL d.1 (min d.1.length 9)) (tsL d.2.1 (min d.2.1.length 4))) (fun d => (d.n - d.i).toNat) (vpH (tsL d.2.1 (min d.2.1.length 4))) (fun d => (d.n - d.i).toNat)) Try.progOk vpCon_ok (inCallF_ok 60) vpQ Try.func7 (show _ = some (bodyS Try.prog 7) by kernel_rfl) fun d hd => by
    obtain ⟨xs, ss, k, u⟩ := d
    obtain ⟨h⟩ := vp_run xs ss k hd.1 hd.2
    exact h
theorem vintParts_calls (w : World) (v0 : Value) (h0 : SlIn w zI v0) (v1 : Value) (h1 : SlIn w zS v1) (k : Int) (hk : inR k) : Calls Try.prog 7 #[v0, v1, .int .i64 k] w fun e w' => Below w.heap.size w w' ∧ e = .returned (.bool true) := by
  obtain ⟨l0, _, i0, d0⟩ := h0
  obtain ⟨l1, _, i1, d1⟩ := h1
  exact law_pf Try.progOk Try.func7 (show _ = some (bodyS Try.prog 7) by kernel_rfl) vp_ok rfl (d := (l0, l1, k, ())) ⟨sl_ints i0, hk⟩ rfl (xs := [dsl zI l0, dsl zS l1, .int .i64 k]) (by kernel_rfl) (All2.cons d0 (All2.cons d1 (All2.cons (.inl ⟨rfl, .plain rfl⟩) All2.nil)))
set_option maxRecDepth 100000 in
theorem vintParts_lifted (os : Os) (started : os.Started) (H : Type) (enc : TypeId × Value → H) :
    ReturnsInHanded {} Try.checked os 7 .any (Rows.vintPartsSpec.pre6 enc Try.prog Try.f7 Rows.vintPartsRow.domain false) (Rows.vintPartsSpec.post enc Try.prog Try.f7 false true false false) := by
  refine returnsInHanded_of_change (C := Try.checked) Try.own started (by kernel_rfl) Try.func7
    (ChangeSpec.witness6 (enc := enc) (C := Try.checked) false ⟨#[], #[.slice none 0 0, .slice none 0 0, .int .i64 0], []⟩ 40 (by kernel_rfl) (by kernel_rfl) (by kernel_rfl) (by kernel_rfl)) ?_
  intro W base args ds gs before hval0 hW hcnd _
  have hval : ∀ (j : Nat) t v, Try.f7.params[j]? = some t → args[j]? = some v → Value.okWide Try.prog W .any base t v := hval0
  have hW' := hW
  obtain ⟨p, q, hA0, hV, rfl, hfz, hnd⟩ := hW
  have hA : DataW.TrodAll enc Try.prog W 0 (fun _ => true) true Try.f7.params.toList args.toList ds p := hA0
  rw [Try.params7] at hA hval
  have hAk := hA
  obtain ⟨v0, v1, v2, d0, d1, d2, p0, p1, p2, rfl, rfl, rfl, h0, h1, h2⟩ := trodAll_three' hA
  obtain ⟨rfl, rfl⟩ := trodVars_none hV
  have in0 : SlIn W zI v0 := arg_slice (n := 8) (by kernel_rfl) (by decide +kernel) Try.underlying32 (by kernel_rfl) (hval 0 32 v0 rfl rfl) h0
  have in1 : SlIn W zS v1 := arg_slice (n := 8) (by kernel_rfl) (by decide +kernel) Try.underlying33 (by kernel_rfl) (hval 1 33 v1 rfl rfl) h1
  obtain ⟨a2, rfl, rfl, rfl, wa2⟩ := open_int Try.underlying3 (hval 2 3 v2 rfl rfl) h2
  clear hA0 hval0
  have hlt : ∀ x ∈ p0 ++ p1 ++ [] ++ ([] : List MemPlace), x.block < W.heap.size := fun x hx => hW'.lt x (by simpa using hx)
  refine (vintParts_calls W v0 in0 v1 in1 a2 (i64_range wa2)).mono fun e W' ⟨hb, he⟩ => ?_
  subst he
  exact ⟨_, rfl, post_below (pa := p0 ++ p1 ++ [] ++ []) (pv := []) hW' (fun _ _ _ => trodAll_mk1 (shut_bool Try.underlying4 true)) (fun sp hsp => trodAll_stays (by kernel_rfl) hb (by decide +kernel) hAk hlt (fun x hx => hsp x (by simpa using hx))) (fun _ _ => rfl) (by simp) hb (ok_one (by kernel_rfl) rfl (okWide_bool_mk Try.underlying4 true))⟩

theorem vintParts_holds : Rows.VintPartsSaid :=
  OpenClaim.holds_of_wide 7 Try.f7 rfl rfl rfl rfl rfl rfl rfl ⟨rfl, rfl, rfl, rfl, rfl⟩ rfl rfl rfl rfl rfl (by kernel_rfl) Try.func7 (by kernel_rfl)
    (of_decide_eq_true (by kernel_rfl)) (by unfold Func.isWrapper; first | (rw [if_pos (by decide +kernel)]; kernel_rfl) | (rw [if_neg (by decide +kernel)]; exact ⟨rfl, rfl⟩))
    (fun os started H enc _ => vintParts_lifted os started H enc)
end Go.Proofs.Ytgegjbapgccbaaa
end
