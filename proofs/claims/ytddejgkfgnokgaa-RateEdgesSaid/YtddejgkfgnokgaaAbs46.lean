/-
  WITHIN, of a small range, TOLD AHEAD.
-/
import Derived.Test.YtddejgkfgnokgaaAbs43
namespace Go.Proofs.Ytddejgkfgnokgaa
open Go.RowKit Go.Abs
/-- Within: a small range's number is told. -/
def withinT (S : Sy) (r : Int) (args : List Value) (h : Hp) (K : Value → Hp → Prop) : Prop :=
  match args with
  | [a, .int .i64 lo, .int .i64 hi] => match den a with
    | .int .i64 n => if -1000000000000 ≤ lo ∧ lo ≤ hi ∧ hi ≤ 2000000000000 then
        if hi - lo < 8 then S.ieq r (S.add lo (S.emod n (hi - lo + 1))) ∧ K (.int .i64 r) h
        else K (mk (.int .i64 (S.add lo (S.emod n (hi - lo + 1))))) h
      else False
    | _ => False
  | _ => False
theorem withinT_ok (r : Int) : ∀ args h K, withinT std r args h K → CallSem Try.prog 16 args h K := by
  intro args h K e
  unfold withinT at e
  split at e
  case h_2 => exact e.elim
  rename_i a lo hi
  split at e
  case h_2 => exact e.elim
  rename_i n hd
  split at e
  case isFalse => exact e.elim
  rename_i hc
  have fin : ∀ {v : Value}, (∀ μ', VR μ' v (.int .i64 (lo + n % (hi - lo + 1)))) → K v h → CallSem Try.prog 16 [a, .int .i64 lo, .int .i64 hi] h K := by
    intro v hv hk μ base w args' hl hrel hfree
    obtain ⟨c, hb⟩ : ∃ c, Try.f16.body = some c := ⟨_, rfl⟩
    have := withinF_args hd hl
    subst this
    refine .inr ⟨enters_name Try.func16 hb _ w, (within_any n lo hi w hc.1 hc.2.1 hc.2.2).mono ?_⟩
    rintro en w' ⟨rfl, rfl⟩
    exact ⟨_, rfl, _, h, μ, hk, cout_below hrel hfree (Below.refl _ _) (hv μ)⟩
  split at e
  · obtain ⟨he, hk⟩ := e
    have he : r = lo + n % (hi - lo + 1) := he
    have := @fin (.int .i64 r) (fun μ' => by rw [he]; exact .plain1 rfl) hk
    exact @this
  · have := @fin (mk (.int .i64 (lo + n % (hi - lo + 1)))) (fun μ' => .zero (.mark (.plain rfl) rfl)) e
    exact @this
end Go.Proofs.Ytddejgkfgnokgaa
