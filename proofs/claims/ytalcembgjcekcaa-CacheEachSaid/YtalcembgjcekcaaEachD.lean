/-
  What CacheEach's text asks for, with the two small numbers told ahead.
-/
import Derived.Test.YtalcembgjcekcaaAbs40
namespace Go.Proofs.Ytalcembgjcekcaa
open Go.RowKit Go.Abs Go
noncomputable def bodyE (P : Program) (f : Nat) : Code := ((P.funcs[f]?).bind (·.body)).getD .skip
/-- Within, small ranges told ahead: dv while fewer than t blocks are made, nv from then on. -/
noncomputable def withinH (S : Sy) (t : Nat) (dv nv : Int) (args : List Value) (h : Hp) (K : Value → Hp → Prop) : Prop :=
  match args with
  | [.int .i64 n, .int .i64 lo, .int .i64 hi] =>
      if -9223372036854775808 ≤ n ∧ n ≤ 9223372036854775807 ∧ -1000000000000 ≤ lo ∧ lo ≤ hi ∧ hi ≤ 2000000000000 then K (.int .i64 (lo + n % (hi - lo + 1))) h else False
  | [a, .int .i64 lo, .int .i64 hi] => match den a with
    | .int .i64 n => if -1000000000000 ≤ lo ∧ lo ≤ hi ∧ hi ≤ 2000000000000 then
        if hi - lo < 8 then inI S n ∧ S.ieq (if h.next < t then dv else nv) (S.add lo (S.emod n (hi - lo + 1))) ∧ K (.int .i64 (if h.next < t then dv else nv)) h
        else inI S n ∧ ∀ r : Int, (S.ile lo r ∧ S.ile r hi) → S.ieq r (S.add lo (S.emod n (hi - lo + 1))) → K (mk (.int .i64 r)) h
      else False
    | _ => False
  | _ => False
theorem withinH_ok (t : Nat) (dv nv : Int) : ∀ args h K, withinH std t dv nv args h K → CallSem Try.prog 12 args h K := by
  intro args h K e
  unfold withinH at e
  split at e
  · rename_i n lo hi
    split at e
    case isFalse => exact e.elim
    rename_i hc
    exact within_sem ⟨hc.1, hc.2.1⟩ hc.2.2.1 hc.2.2.2.1 hc.2.2.2.2 rfl (fun μ => .plain1 rfl) e
  · rename_i a lo hi _
    split at e
    case h_2 => exact e.elim
    rename_i n hn
    split at e
    case isFalse => exact e.elim
    rename_i hc
    obtain ⟨a3, a4, a5⟩ := hc
    have h5 := Int.emod_nonneg n (by omega : hi - lo + 1 ≠ 0)
    have h6 := Int.emod_lt_of_pos n (by omega : 0 < hi - lo + 1)
    split at e
    · obtain ⟨⟨a1, a2⟩, he, hK⟩ := e
      have he : (if h.next < t then dv else nv) = lo + n % (hi - lo + 1) := he
      rw [he] at hK
      have ht : CallSem Try.prog 12 [a, .int .i64 lo, .int .i64 hi] h K := @within_sem n lo hi ⟨a1, a2⟩ a3 a4 a5 a hn (.int .i64 (lo + n % (hi - lo + 1))) (fun μ => .plain1 rfl) h K hK
      exact @ht
    · obtain ⟨⟨a1, a2⟩, hK⟩ := e
      have hk : K (mk (.int .i64 (lo + n % (hi - lo + 1)))) h := (hK _ ⟨show lo ≤ lo + n % (hi - lo + 1) by omega, show lo + n % (hi - lo + 1) ≤ hi by omega⟩ rfl)
      have ht : CallSem Try.prog 12 [a, .int .i64 lo, .int .i64 hi] h K := @within_sem n lo hi ⟨a1, a2⟩ a3 a4 a5 a hn (mk (.int .i64 (lo + n % (hi - lo + 1)))) (fun μ => .zero (.mark (.plain rfl) rfl)) h K hk
      exact @ht
  · exact e.elim
noncomputable def eachCons (S : Sy) (dv nv : Int) : Con := conL [(12, withinH S 52 dv nv), (3, closedC (.bool true))]
noncomputable def eachL : Loops := fun _ => none
def eF : Prop := Value.bool false = Value.bool true
def eachI (h : Int) : Prop := ((-9223372036854775808 : Int) ≤ h) ∧ (h ≤ (9223372036854775807 : Int))
def eachEq (r : Int) : Nat → Prop → Prop
  | 0, X => X
  | n + 1, X => ((!(r == r)) = true → eF) ∧ ((!(r == r)) = false → eachEq r n X)
def eachPut (r : Int) : Nat → Prop → Prop
  | 0, X => X
  | n + 1, X => (decide (r < (1 : Int)) = true → eF) ∧ (decide (r < (1 : Int)) = false → eachPut r n X)
def eachG (nv : Int) (r n : Int) (X : Prop) : Prop := eachI n ∧ nv = 1 + n % 6 ∧ eachEq r 5 X
def eachC (r : Int) (X Y : Prop) : Prop := (decide (r < (1 : Int)) = true → X) ∧ (decide (r < (1 : Int)) = false → Y)
def eachVC (dv nv : Int) (n drop h : Int) : Prop :=
  eachI h ∧ ∀ r : Int, ((1 : Int) ≤ r ∧ r ≤ (16 : Int)) → r = (1 : Int) + h % (16 : Int) →
    eachPut r 6 (eachI drop ∧ dv = 1 + drop % 6 ∧ eachC r (eachC r (eachG nv r n eF) (eachG nv r n eF)) (eachC r (eachG nv r n eF) (eachG nv r n (((r == r) = true → Value.bool true = Value.bool true) ∧ ((r == r) = false → eF)))))
/-- A case. -/
def EachP (dv nv : Int) : Prop := ∀ n drop h : Int, lawV std Try.prog (eachCons std dv nv) (inCallF 60) 90 eachL Try.f6 (bodyE Try.prog 6) [mk (.int .i64 n), mk (.int .i64 drop), mk (.int .i64 h)] H0 (fun v _ => v = .bool true) = eachVC dv nv n drop h
end Go.Proofs.Ytalcembgjcekcaa
