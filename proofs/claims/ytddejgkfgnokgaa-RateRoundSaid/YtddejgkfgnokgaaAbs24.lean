/-
  A MAP IN THE WORLD, AS THE KIT's CONTRACTS SPEAK OF IT.
-/
import Derived.Test.YtddejgkfgnokgaaAbs23
import Derived.Lib.SlKeysI
import Derived.Maps.Own
import Derived.Sort.KeysCollected
namespace Go.Abs
open Go Go.WideElems Go.MapKept

section
variable {P : Program} {k : TypeId}

theorem insert_perm {H : Type} (x : Lit × DataW H) : ∀ l, (DataW.insert x l).Perm (x :: l)
  | [] => .refl _
  | y :: l => by
    unfold DataW.insert
    split
    · exact .refl _
    · exact ((insert_perm x l).cons y).trans (.swap x y l)
theorem foldr_insert_perm {H : Type} : ∀ l : List (Lit × DataW H), (l.foldr DataW.insert []).Perm l
  | [] => .refl _
  | x :: l => (insert_perm x _).trans ((foldr_insert_perm l).cons x)

/-- Values are read as nothing. -/
def blankR : Value → Option (DataW Unit × List MemPlace) := fun _ => some (.nil, [])

theorem ownsMap_int {w : World} {b clock : Nat} {es : Array MapEntry} {ns : List Int} (hb : w.heap[b]? = some (.map es clock)) (hk : P.underlying k = some (.int .i64)) (hst : Stamped es clock) (hsz : es.size ≤ maxLen)
    (hkeys : es.toList.map (·.key) = ns.map (Value.int .i64)) (hns : ∀ n ∈ ns, (Lit.int .i64 n).wf = true) :
    ∃ D0 : DataW Unit, w.ownsMap P k blankR b es.size D0 ∧ (intKeys D0).Perm ns ∧ Maps.size D0 = es.size := by
  have key : ∀ x ∈ es.toList, ∃ n, x.key = .int .i64 n ∧ (Lit.int .i64 n).wf = true := by
    intro x hx
    have : x.key ∈ es.toList.map (·.key) := List.mem_map.2 ⟨x, hx, rfl⟩
    rw [hkeys] at this
    obtain ⟨n, hn, he⟩ := List.mem_map.1 this
    exact ⟨n, he.symm, hns n hn⟩
  have read : ∀ x ∈ es.toList, ∀ n, x.key = .int .i64 n → (Lit.int .i64 n).wf = true → rd P k blankR x = some (.int .i64 n, .nil) := by
    intro x _ n he hw
    unfold rd keyOf
    rw [hk, he]
    simp [mapKey, hk, blankR, hw]
  refine ⟨_, ⟨es, clock, hb, ⟨hsz, hst, fun x hx => ?_⟩, Nat.le_refl _, rfl⟩, ?_, ?_⟩
  rotate_left 2
  · show ((es.toList.map (rg P k blankR)).foldr DataW.insert []).length = _
    rw [(foldr_insert_perm _).length_eq]; simp
  · obtain ⟨n, h1, h2⟩ := key x hx
    exact ⟨_, read x hx n h1 h2⟩
  · show ((es.toList.map (rg P k blankR)).foldr DataW.insert [] |>.map fun p => intOf p.1).Perm ns
    refine ((foldr_insert_perm _).map _).trans ?_
    rw [List.map_map]
    have : es.toList.map ((fun p => intOf p.1) ∘ rg P k blankR) = ns := by
      have h2 : (es.toList.map (·.key)).map (fun v => match v with | .int _ n => n | _ => 0) = ns := by
        rw [hkeys, List.map_map]
        conv => rhs; rw [← List.map_id ns]
        rfl
      rw [← h2, List.map_map]
      refine List.map_congr_left fun x hx => ?_
      obtain ⟨n, h1, h3⟩ := key x hx
      simp only [Function.comp]
      unfold rg
      rw [read x hx n h1 h3, h1]
      rfl
    rw [this]

theorem ownsMap_str {w : World} {b clock : Nat} {es : Array MapEntry} {ns : List ByteArray} (hb : w.heap[b]? = some (.map es clock)) (hk : P.underlying k = some .string) (hst : Stamped es clock) (hsz : es.size ≤ maxLen)
    (hkeys : es.toList.map (·.key) = ns.map Value.string) (hns : ∀ n ∈ ns, n.size ≤ maxLen) :
    ∃ D0 : DataW Unit, w.ownsMap P k blankR b es.size D0 ∧ (strKeys D0).Perm (ns.map (·.data.toList)) ∧ Maps.size D0 = es.size := by
  have key : ∀ x ∈ es.toList, ∃ n, x.key = .string n ∧ n.size ≤ maxLen := by
    intro x hx
    have : x.key ∈ es.toList.map (·.key) := List.mem_map.2 ⟨x, hx, rfl⟩
    rw [hkeys] at this
    obtain ⟨n, hn, he⟩ := List.mem_map.1 this
    exact ⟨n, he.symm, hns n hn⟩
  have read : ∀ x ∈ es.toList, ∀ n, x.key = .string n → n.size ≤ maxLen → rd P k blankR x = some (.string n.data.toList, .nil) := by
    intro x _ n he hw
    unfold rd keyOf
    rw [hk, he]
    simp [mapKey, hk, blankR, hw]
  refine ⟨_, ⟨es, clock, hb, ⟨hsz, hst, fun x hx => ?_⟩, Nat.le_refl _, rfl⟩, ?_, ?_⟩
  rotate_left 2
  · show ((es.toList.map (rg P k blankR)).foldr DataW.insert []).length = _
    rw [(foldr_insert_perm _).length_eq]; simp
  · obtain ⟨n, h1, h2⟩ := key x hx
    exact ⟨_, read x hx n h1 h2⟩
  · show ((es.toList.map (rg P k blankR)).foldr DataW.insert [] |>.map fun p => strOf p.1).Perm (ns.map (·.data.toList))
    refine ((foldr_insert_perm _).map _).trans ?_
    rw [List.map_map]
    have : es.toList.map ((fun p => strOf p.1) ∘ rg P k blankR) = ns.map (·.data.toList) := by
      have h2 : (es.toList.map (·.key)).map (fun v => match v with | .string n => n.data.toList | _ => []) = ns.map (·.data.toList) := by
        rw [hkeys, List.map_map]
        rfl
      rw [← h2, List.map_map]
      refine List.map_congr_left fun x hx => ?_
      obtain ⟨n, h1, h3⟩ := key x hx
      simp only [Function.comp]
      unfold rg
      rw [read x hx n h1 h3, h1]
      rfl
    rw [this]
end
end Go.Abs
