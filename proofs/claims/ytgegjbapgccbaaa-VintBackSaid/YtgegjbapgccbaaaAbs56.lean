/-
  A HASH THAT COMES IN.
-/
import Derived.Test.YtgegjbapgccbaaaAbs54
import Derived.OpenShut
namespace Go.Abs
open Go Go.ChangeShapes Go.WideShapes Go.RowKit
theorem hash_vr_gen {μ : Mu} {l : List Int} {n : Nat} (hl : l.length = n) : VR μ (.agg ((List.range n).map fun i => mk (.int .u8 (std.get 0 l i))).toArray) (.agg (l.map (Value.int .u8)).toArray) := by
  refine .a (.agg ?_)
  refine ⟨by simp [hl], fun i a ha => ?_⟩
  have ha : ((List.range n).map fun i => mk (.int .u8 (std.get 0 l i)))[i]? = some a := ha
  rw [List.getElem?_map] at ha
  have hi : i < n := by
    rcases Nat.lt_or_ge i n with h | h
    · exact h
    · rw [List.getElem?_eq_none (by rw [List.length_range]; exact h)] at ha; cases ha
  rw [List.getElem?_range hi] at ha
  simp only [Option.map_some, Option.some.injEq] at ha
  subst ha
  refine ⟨.int .u8 (std.get 0 l i), ?_, .zero (.mark (.plain rfl) rfl)⟩
  show (l.map (Value.int .u8))[i]? = _
  rw [List.getElem?_map, List.getElem?_eq_getElem (show i < l.length by omega)]
  show some (Value.int .u8 l[i]) = some (.int .u8 (l.getD i 0))
  rw [List.getD_eq_getElem?_getD, List.getElem?_eq_getElem (show i < l.length by omega)]; rfl
section
variable {H : Type} {enc : TypeId × Value → H} {P : Program} {W : World} {b0 base : Nat} {sp : Nat → Bool} {held : Bool} {t e : TypeId} {n : Nat} {v : Value} {d : DataW H} {ps : List MemPlace}
def numIn' (v : Value) : Int := match v with | .int _ n => n | _ => 0
theorem open_hash (ht : P.underlying t = some (.array n e)) (he : P.underlying e = some (.int .u8)) (hc : P.cellsOf e = 1 ∧ P.cellsOf t = n) (hval : Value.okWide P W .any b0 t v) (hd : DataW.Trod enc P W base sp held t v d ps) :
    ∃ xs : List Int, v = .agg (xs.map (Value.int .u8)).toArray ∧ ps = [] ∧ xs.length = n ∧ ∀ x ∈ xs, 0 ≤ x ∧ x < 256 := by
  simp only [Value.okWide, ht] at hval
  obtain ⟨cs, rfl, h2, _⟩ := hval
  obtain ⟨fuel, hf⟩ := hd
  obtain ⟨ys, m, _, hx, hl, hyl, hy⟩ := DataW.trod_array ht hf
  simp only [Value.cells] at hl hy
  rw [hc.2] at hl
  have each : ∀ i, i < n → ∃ x : Int, cs.toList[i]? = some (.int .u8 x) ∧ (0 ≤ x ∧ x < 256) ∧ ∃ y, ys[i]? = some y ∧ y.2 = [] := by
    intro i hi
    have h3 := hy i hi
    rw [hc.1, Nat.mul_one] at h3
    have h4 : ys[i]? = some (ys[i]'(by omega)) := List.getElem?_eq_getElem _
    rw [h4] at h3
    obtain ⟨x, h5, h6, h7⟩ := DataW.trod_int he h3
    refine ⟨x, ?_, ?_, _, h4, by rw [h6]⟩
    · have h8 : ((cs.toList.drop i).take 1)[0]? = some (.int .u8 x) := by rw [h5]; rfl
      rw [List.getElem?_take] at h8
      simpa using h8
    · simp [Lit.wf] at h7
      have e1 : IntKind.u8.min = 0 := rfl
      have e2 : IntKind.u8.max = 255 := rfl
      omega
  have hcs : cs.toList = (cs.toList.map numIn').map (Value.int .u8) := by
    rw [List.map_map]
    refine List.ext_getElem? fun i => ?_
    rw [List.getElem?_map]
    rcases Nat.lt_or_ge i n with hi | hi
    · obtain ⟨x, h3, _⟩ := each i hi
      rw [h3]; rfl
    · rw [List.getElem?_eq_none (by omega)]; rfl
  refine ⟨cs.toList.map numIn', congrArg Value.agg (Array.toList_inj.1 hcs), ?_, by rw [List.length_map]; exact hl, fun x hx' => ?_⟩
  · have : ps = ys.flatMap (·.2) := congrArg Prod.snd hx
    rw [this, List.flatMap_eq_nil_iff]
    intro y hy'
    obtain ⟨i, hi⟩ := List.mem_iff_getElem?.1 hy'
    have hin : i < n := by have := (List.getElem?_eq_some_iff.1 hi).1; omega
    obtain ⟨_, _, _, y', h4, h5⟩ := each i hin
    rw [hi] at h4
    simp at h4; subst h4; exact h5
  · obtain ⟨v, hv, rfl⟩ := List.mem_map.1 hx'
    obtain ⟨i, hi⟩ := List.mem_iff_getElem?.1 hv
    have hin : i < n := by have := (List.getElem?_eq_some_iff.1 hi).1; omega
    obtain ⟨x, h3, h4, _⟩ := each i hin
    rw [hi] at h3
    simp at h3; subst h3; exact h4
end
end Go.Abs
