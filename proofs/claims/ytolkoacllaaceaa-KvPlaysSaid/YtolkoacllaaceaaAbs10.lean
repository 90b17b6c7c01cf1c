/-
  THE ABSTRACT EVALUATOR AND THE MODEL: append, copy; all operations that write memory.
-/
import Derived.Test.YtolkoacllaaceaaAbs9
namespace Go.Abs
open Go

section
variable {P : Program} {μ : Mu} {base : Nat} {w : World}

/-- What is appended: how many, the cells, in the world and behind a draw. -/
structure Src (P : Program) (w : World) (e : TypeId) (size : Nat) (z : Value) (xt : TypeId) (x : Value) (m : Nat) (news : Array Value) : Prop where
  plain : (∃ k kk n, P.underlying xt = some (.int k) ∧ x = .int kk n ∧ 0 ≤ n ∧ n < 4611686018427387904 ∧ m = n.toNat ∧ news.toList = (List.replicate m z.cells.toList).flatten) ∨
    ((P.underlying xt = some .string ∨ ∃ t, P.underlying xt = some (.slice t)) ∧ (∀ w0, (Builtin.lenOf x).run P w0 = .ok m w0) ∧ (Builtin.firstCells size m x).run P w = .ok news w ∧ (Builtin.firstCells size m x).run P w.drew = .ok news w.drew)

theorem zeroCells_list (z : Array Value) (n : Nat) (hz : 0 < z.size) : (Builtin.zeroCells z n).toList = (List.replicate n z.toList).flatten := by
  unfold Builtin.zeroCells; exact zero_row z n hz

/-- What append comes to: in the room that there is, or in a new row. -/
def apRoom (P : Program) (w : World) (size : Nat) (bs : Option Addr) (sLen sCap m : Nat) (news : Array Value) : Result Value :=
  match bs with
  | some a => ((storeCells (a.add (sLen * size)) news.toList).run P w).andThen fun _ w' => .ok (.slice bs (sLen + m) sCap) w'
  | none => .ok (.slice bs (sLen + m) sCap) w
def apGrow (w : World) (e : TypeId) (z : Value) (sLen sCap m : Nat) (olds news : Array Value) : Result Value :=
  .ok (.slice (some ⟨w.heap.size, 0, none⟩) (sLen + m) (grownCap w (sLen + m) sCap e)) (w.drew.alloc (.cells (olds ++ news ++ Builtin.zeroCells z.cells (grownCap w (sLen + m) sCap e - (sLen + m))) e))

theorem append_run {argTypes : Array TypeId} {ty st xt e : TypeId} {args : Array Value} {bs : Option Addr} {sLen sCap m : Nat} {x : Value} {i : TypeInfo} {z : Value} {news : Array Value}
    (h0 : argTypes[0]? = some st) (h1 : argTypes[1]? = some xt) (ha0 : args[0]? = some (.slice bs sLen sCap)) (ha1 : args[1]? = some x) (hu : P.underlying st = some (.slice e)) (hi : P.info? e = some i)
    (hz : i.zero = some z) (hzs : z.cells.size = i.size) (hsz : 0 < i.size) (hby : m * i.bytes ≤ 140737488355328) (src : Src P w e i.size z xt x m news) :
    (sLen + m ≤ sCap → (Builtin.append_ argTypes ty args).run P w = apRoom P w i.size bs sLen sCap m news) ∧
    (sCap < sLen + m → sLen + m ≤ 4611686018427387904 → (sLen + m) * i.bytes ≤ 140737488355328 → ∀ olds, (Builtin.firstCells i.size sLen (.slice bs sLen sCap)).run P w.drew = .ok olds w.drew →
      (Builtin.append_ argTypes ty args).run P w = apGrow w e z sLen sCap m olds news) := by
  rcases src.plain with ⟨k, kk, n, hxt, rfl, hn0, hn1, rfl, hnews⟩ | ⟨hxt, hlen, hf1, hf2⟩
  · have hw : IntKind.i64.wrap n = n := IntWalk.i64_in _ (by omega)
    have hb1 : ¬ (n < 0) := by omega
    have hb2 : ¬ (281474976710656 < n * (i.bytes : Int)) := by
      have h : ((n.toNat * i.bytes : Nat) : Int) ≤ 140737488355328 := Int.ofNat_le.2 hby
      rw [Int.natCast_mul, Int.toNat_of_nonneg hn0] at h
      omega
    have hz2 : n.toNat * i.size = 0 → news = #[] := by
      intro h
      have h' : n.toNat = 0 := by
        rcases Nat.mul_eq_zero.1 h with h | h
        · exact h
        · omega
      rw [h'] at hnews
      apply Array.ext'
      rw [hnews]; rfl
    have hz3 : Builtin.zeroCells z.cells n.toNat = news := by
      apply Array.ext'
      rw [zeroCells_list _ _ (by omega), hnews]
    refine ⟨fun hroom => ?_, fun hg h62 hbb olds ho => ?_⟩
    · by_cases h : n.toNat * i.size = 0
      · have := hz2 h
        subst this
        cases bs <;> simp [apRoom, Builtin.append_, h0, h1, ha0, ha1, run_underlying hu, run_underlying hxt, Go.sizeOf, typeInfo, hi, asInt, asIntOf, hw, hb1, hb2, hroom, h]
      · cases bs <;> simp [apRoom, Builtin.append_, h0, h1, ha0, ha1, run_underlying hu, run_underlying hxt, Go.sizeOf, typeInfo, zeroValue, hi, hz, asInt, asIntOf, hw, hb1, hb2, hroom, h, hz3]
    · have h1' : ¬ (sLen + n.toNat ≤ sCap) := by omega
      have h63' : ¬ (9223372036854775807 < ((sLen : Int) + (n.toNat : Int))) := by omega
      have h63n : ¬ (9223372036854775807 < ((sLen : Int) + n)) := by omega
      have hmx : max n 0 = n := by omega
      have h48 := growslice_fits hg hbb
      have h48' : ¬ (281474976710656 < Builtin.nextslicecap (sLen + n.toNat) sCap * i.bytes) := by omega
      by_cases h : n.toNat * i.size = 0
      · have := hz2 h
        subst this
        simp [apGrow, Builtin.append_, h0, h1, ha0, ha1, run_underlying hu, run_underlying hxt, Go.sizeOf, typeInfo, zeroValue, hi, hz, asInt, asIntOf, hw, hb1, hb2, h1', h63n, hmx, h48', Question.forced, ho, newRow, grownCap, h]
      · simp [apGrow, Builtin.append_, h0, h1, ha0, ha1, run_underlying hu, run_underlying hxt, Go.sizeOf, typeInfo, zeroValue, hi, hz, asInt, asIntOf, hw, hb1, hb2, h1', h63n, hmx, h48', Question.forced, ho, newRow, grownCap, h, hz3]
  · refine ⟨fun hroom => ?_, fun hg h62 hbb olds ho => ?_⟩
    · rcases hxt with hxt | ⟨t, hxt⟩ <;> (cases bs <;> simp [apRoom, Builtin.append_, h0, h1, ha0, ha1, run_underlying hu, run_underlying hxt, Go.sizeOf, typeInfo, hi, hlen, hroom, hf1])
    · have h1' : ¬ (sLen + m ≤ sCap) := by omega
      have h63' : ¬ (9223372036854775807 < ((sLen : Int) + (m : Int))) := by omega
      have h48 := growslice_fits hg hbb
      have h48' : ¬ (281474976710656 < Builtin.nextslicecap (sLen + m) sCap * i.bytes) := by omega
      rcases hxt with hxt | ⟨t, hxt⟩ <;>
        simp [apGrow, Builtin.append_, h0, h1, ha0, ha1, run_underlying hu, run_underlying hxt, Go.sizeOf, typeInfo, zeroValue, hi, hz, hlen, h1', h63', h48', Question.forced, ho, hf2, newRow, grownCap]

theorem sourceA_run {xt : TypeId} {x x' : Value} {h : Hp} {m sz : Nat} {zero news : List Value} {e : TypeId} {z : Value} (hs : sourceA P sz xt zero x h = some (m, news)) (hr : Rel μ base h.get w) (hx : VR μ x x')
    (hzero : (∀ k, P.underlying xt ≠ some (.int k)) ∨ (zero = z.cells.toList ∧ plainA z = true ∧ z.cells.size = sz)) :
    ∃ news', Src P w e sz z xt x' m news' ∧ All2 (VR1 μ) news news'.toList ∧ news'.size = news.length ∧ news.length = m * sz := by
  unfold sourceA at hs
  split at hs
  · rename_i k kk n hu
    split at hs
    · rename_i hn
      simp only [Option.some.injEq, Prod.mk.injEq] at hs
      obtain ⟨rfl, rfl⟩ := hs
      have := hx.inv_int; subst this
      rcases hzero with hz0 | ⟨rfl, hzp, hzs⟩
      · exact absurd hu (hz0 k)
      exact ⟨(List.replicate n.toNat z.cells.toList).flatten.toArray, ⟨.inl ⟨k, kk, n, hu, rfl, hn.1, hn.2, rfl, by simp⟩⟩, by simpa using all2_flat (zero_cells hzp) n.toNat, by simp, by rw [flat_len, Array.length_toList, hzs]⟩
    · cases hs
  · rename_i t hu
    simp only [Option.some.injEq, Prod.mk.injEq] at hs
    obtain ⟨rfl, rfl⟩ := hs
    have := hx.eq_of_plain (v := .slice none 0 0) rfl; subst this
    exact ⟨#[], ⟨.inr ⟨.inr ⟨t, hu⟩, fun _ => rfl, run_firstCells_none w _ _ _ _, run_firstCells_none _ _ _ _ _⟩⟩, All2.nil, rfl, by simp⟩
  · rename_i t b o n k hu
    cases hc : h.cells b o (n * sz) with
    | none =>
      simp [hc] at hs
      obtain ⟨rfl, rfl, rfl⟩ := hs
      rcases hx.inv_slice with ⟨p, k', hp, rfl, hlen, _⟩ | ⟨_, hk, a', _, rfl⟩
      · exact ⟨#[], ⟨.inr ⟨.inr ⟨t, hu⟩, fun _ => rfl, run_firstCells_some w sz 0 _ 0 k' [] (by simp) (by simp), run_firstCells_some w.drew sz 0 _ 0 k' [] (by simp) (by simp)⟩⟩, All2.nil, rfl, by simp⟩
      · exact ⟨#[], ⟨.inr ⟨.inr ⟨t, hu⟩, fun _ => rfl, run_firstCells_some w sz 0 a' 0 0 [] (by simp) (by simp), run_firstCells_some w.drew sz 0 a' 0 0 [] (by simp) (by simp)⟩⟩, All2.nil, rfl, by simp⟩
    | some cs =>
      simp [hc] at hs
      obtain ⟨rfl, rfl⟩ := hs
      rcases hx.inv_slice with ⟨p, k', hp, rfl, hlen, _⟩ | ⟨rfl, hk, a', _, rfl⟩
      · obtain ⟨cs', h1, h2, h3⟩ := cells_run hc hr hp
        exact ⟨cs'.toArray, ⟨.inr ⟨.inr ⟨t, hu⟩, fun _ => rfl, run_firstCells_some w sz n _ n k' cs' h2 h3, run_firstCells_some w.drew sz n _ n k' cs' h2 (by simpa using h3)⟩⟩, by simpa using h1, by simp [h1.1], by rw [h1.1, h2]⟩
      · have hcs : cs = [] := by
          unfold Hp.cells at hc
          split at hc
          · split at hc
            · simp at hc; exact hc
            · cases hc
          · cases hc
        subst hcs
        exact ⟨#[], ⟨.inr ⟨.inr ⟨t, hu⟩, fun _ => rfl, run_firstCells_some w sz 0 a' 0 0 [] (by simp) (by simp), run_firstCells_some w.drew sz 0 a' 0 0 [] (by simp) (by simp)⟩⟩, All2.nil, rfl, by simp⟩
  · rename_i s hu
    split at hs
    · rename_i hsz
      simp only [Option.some.injEq, Prod.mk.injEq] at hs
      obtain ⟨rfl, rfl⟩ := hs
      have := hx.inv_string; subst this
      have hfc : ∀ w0 : World, (Builtin.firstCells sz s.data.toList.length (.string s)).run P w0 = .ok (s.data.map fun b => Value.int .u8 b.toNat) w0 := by
        intro w0
        have hex : s.extract 0 s.data.toList.length = s := by
          apply ByteArray.ext
          rw [ByteArray.data_extract]
          simp
        simp only [Builtin.firstCells, hex]
        rfl
      refine ⟨s.data.map fun b => Value.int .u8 b.toNat, ⟨.inr ⟨.inl hu, fun _ => rfl, hfc w, hfc _⟩⟩, ?_, by simp [valBytes], by rw [hsz]; simp [valBytes]⟩
      simp only [valBytes, Array.toList_map]
      exact All2.refl fun a ha => by
        obtain ⟨b, _, rfl⟩ := List.mem_map.1 ha
        exact .refl_plain rfl
    · cases hs
  · cases hs
end
end Go.Abs
