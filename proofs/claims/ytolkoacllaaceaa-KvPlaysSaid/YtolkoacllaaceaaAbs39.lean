/-
  WITHIN, CASE BY CASE: small ranges are gone through number by number; known numbers are worked out.
-/
import Derived.Test.YtolkoacllaaceaaAbs38
namespace Go.Abs
open Go
def enumK (K : Int → Prop) : Nat → Int → Prop
  | 0, _ => True
  | n + 1, lo => K lo ∧ enumK K n (lo + 1)
theorem enumK_get {K : Int → Prop} : ∀ {n : Nat} {lo : Int}, enumK K n lo → ∀ r, lo ≤ r → r < lo + n → K r
  | 0, lo, _, r, h1, h2 => by omega
  | n + 1, lo, ⟨h0, h⟩, r, h1, h2 => by
    by_cases e : r = lo
    · subst e; exact h0
    · exact enumK_get h r (by omega) (by omega)
end Go.Abs
namespace Go.Proofs.Ytolkoacllaaceaa
open Go.RowKit Go.Abs

def withinE (S : Sy) (args : List Value) (h : Hp) (K : Value → Hp → Prop) : Prop :=
  match args with
  | [.int .i64 n, .int .i64 lo, .int .i64 hi] =>
      if -9223372036854775808 ≤ n ∧ n ≤ 9223372036854775807 ∧ -1000000000000 ≤ lo ∧ lo ≤ hi ∧ hi ≤ 2000000000000 then K (.int .i64 (lo + n % (hi - lo + 1))) h else False
  | [a, .int .i64 lo, .int .i64 hi] => match den a with
    | .int .i64 n => if -1000000000000 ≤ lo ∧ lo ≤ hi ∧ hi ≤ 2000000000000 then
        if hi - lo < 8 then inI S n ∧ enumK (fun r => K (.int .i64 r) h) (hi - lo + 1).toNat lo
        else inI S n ∧ ∀ r : Int, (S.ile lo r ∧ S.ile r hi) → S.ieq r (S.add lo (S.emod n (hi - lo + 1))) → K (mk (.int .i64 r)) h
      else False
    | _ => False
  | _ => False

theorem within_sem {n lo hi : Int} (hn : -9223372036854775808 ≤ n ∧ n ≤ 9223372036854775807) (a3 : -1000000000000 ≤ lo) (a4 : lo ≤ hi) (a5 : hi ≤ 2000000000000) {a : Value} (had : den a = .int .i64 n) {v : Value} (hd : ∀ μ, VR μ v (.int .i64 (lo + n % (hi - lo + 1)))) {h : Hp} {K : Value → Hp → Prop} (hK : K v h) : CallSem Try.prog 13 [a, .int .i64 lo, .int .i64 hi] h K := by
  intro μ base w args' hl hrel hfree
  obtain ⟨v1, l1, e1, r1, hl⟩ := hl.inv_cons
  obtain ⟨v2, l2, e2, r2, hl⟩ := hl.inv_cons
  obtain ⟨v3, l3, e3, r3, hl⟩ := hl.inv_cons
  have e4 := hl.inv_nil
  have r1 := r1.den
  rw [had] at r1
  rw [r1.inv_int] at e1; rw [r2.inv_int] at e2; rw [r3.inv_int] at e3
  subst e4; subst e3; subst e2
  have : args' = #[.int .i64 n, .int .i64 lo, .int .i64 hi] := Array.toList_inj.1 e1
  subst this
  have hname : (callFunc 13 #[.int .i64 n, .int .i64 lo, .int .i64 hi]).run Try.prog w = .ok (.enter 13 #[.int .i64 n, .int .i64 lo, .int .i64 hi]) w := by
    have hn := Try.progOk.name Try.func13
    obtain ⟨c, hb⟩ : ∃ c, Try.f13.body = some c := ⟨_, rfl⟩
    simp [callFunc, Try.func13, hn, hb]
  refine .inr ⟨hname, (within_walk n lo hi w hn a3 a4 a5).mono ?_⟩
  rintro en w' ⟨rfl, rfl⟩
  exact ⟨_, rfl, _, h, μ, hK, hd μ, hrel, hfree, Fr.refl _ _ _, fun b p x h1 h2 => .inr ⟨b, p, x, h1, h2, id, rfl⟩, fun _ _ => rfl, Nat.le_refl _, fun _ _ _ h => h, fun _ _ _ h => .inl h⟩

theorem withinE_ok : ∀ args h K, withinE std args h K → CallSem Try.prog 13 args h K := by
  intro args h K e
  unfold withinE at e
  split at e
  · rename_i n lo hi
    split at e
    case isFalse => exact e.elim
    rename_i hc
    exact within_sem ⟨hc.1, hc.2.1⟩ hc.2.2.1 hc.2.2.2.1 hc.2.2.2.2 rfl (fun μ => .plain1 rfl) e
  · rename_i a lo hi _
    split at e
    case h_2 => exact e.elim
    rename_i n hn
    split at e
    case isFalse => exact e.elim
    rename_i hc
    obtain ⟨a3, a4, a5⟩ := hc
    have h5 := Int.emod_nonneg n (by omega : hi - lo + 1 ≠ 0)
    have h6 := Int.emod_lt_of_pos n (by omega : 0 < hi - lo + 1)
    split at e
    · obtain ⟨⟨a1, a2⟩, hK⟩ := e
      have hk : K (.int .i64 (lo + n % (hi - lo + 1))) h := enumK_get (K := fun r => K (.int .i64 r) h) hK _ (by omega) (by omega)
      have ht : CallSem Try.prog 13 [a, .int .i64 lo, .int .i64 hi] h K := @within_sem n lo hi ⟨a1, a2⟩ a3 a4 a5 a hn (.int .i64 (lo + n % (hi - lo + 1))) (fun μ => .plain1 rfl) h K hk
      exact @ht
    · obtain ⟨⟨a1, a2⟩, hK⟩ := e
      have hk : K (mk (.int .i64 (lo + n % (hi - lo + 1)))) h := (hK _ ⟨show lo ≤ lo + n % (hi - lo + 1) by omega, show lo + n % (hi - lo + 1) ≤ hi by omega⟩ rfl)
      have ht : CallSem Try.prog 13 [a, .int .i64 lo, .int .i64 hi] h K := @within_sem n lo hi ⟨a1, a2⟩ a3 a4 a5 a hn (mk (.int .i64 (lo + n % (hi - lo + 1)))) (fun μ => .zero (.mark (.plain rfl) rfl)) h K hk
      exact @ht
  · exact e.elim
end Go.Proofs.Ytolkoacllaaceaa
