/-
  WITHIN: what it answers, for the abstract evaluator; a number known by its rest alone.
-/
import Derived.Test.YtolkoacllaaceaaAbs19
import Derived.WalkKit
namespace Go.Proofs.Ytolkoacllaaceaa
open Go.RowKit Go.Abs
theorem tmod_cases {n d : Int} (hd : 0 < d) : (n.tmod d < 0 ∧ n.tmod d + d = n % d) ∨ (0 ≤ n.tmod d ∧ n.tmod d = n % d) := by
  have h1 := Int.emod_nonneg n (by omega : d ≠ 0)
  have h2 := Int.emod_lt_of_pos n hd
  have h3 : (d.natAbs : Int) = d := by omega
  have h := Int.tmod_eq_emod (a := n) (b := d)
  split at h <;> omega
set_option maxHeartbeats 400000 in
theorem within_walk (n lo hi : Int) (w : World) (_hn : -9223372036854775808 ≤ n ∧ n ≤ 9223372036854775807) (h1 : -1000000000000 ≤ lo) (h2 : lo ≤ hi) (h3 : hi ≤ 2000000000000) :
    Calls Try.prog 13 #[.int .i64 n, .int .i64 lo, .int .i64 hi] w fun e w' => e = .returned (.int .i64 (lo + n % (hi - lo + 1))) ∧ w' = w := by
  have ht := tmod_cases (n := n) (d := hi - lo + 1) (by omega)
  have h5 := Int.emod_nonneg n (by omega : hi - lo + 1 ≠ 0)
  have h6 := Int.emod_lt_of_pos n (by omega : 0 < hi - lo + 1)
  go_enter Try.func13, Try.ntmps13
  go_wp2
  · rename_i hneg
    go_ret
    refine ⟨?_, rfl⟩
    show Ending.returned (Value.int IntKind.i64 (lo + (n.tmod (hi - lo + 1) + hi - lo + 1))) = _
    congr 2; omega
  · rename_i hneg
    go_ret
    refine ⟨?_, rfl⟩
    show Ending.returned (Value.int IntKind.i64 (lo + n.tmod (hi - lo + 1))) = _
    congr 2; omega

theorem tok_mk {m r : Nat} {n : Int} (hr : r < 4096) (h1 : -9223372036854775808 ≤ n ∧ n ≤ 9223372036854775807) (h : n % (m : Int) = (r : Int)) : TokOk (m * 4096 + r) (.int .i64 n) := by
  refine ⟨n, rfl, h1.1, h1.2, ?_⟩
  rw [show (m * 4096 + r) / 4096 = m from by omega, show (m * 4096 + r) % 4096 = r from by omega]
  exact h
theorem i64_range {n : Int} (h : (Lit.int .i64 n).wf = true) : -9223372036854775808 ≤ n ∧ n ≤ 9223372036854775807 := by
  simp only [Lit.wf, Bool.and_eq_true, decide_eq_true_eq] at h
  exact h

/-- Within, of a number, or of a number known by its rest. -/
def withinG (args : List Value) (h : Hp) : Option (Value × Hp) :=
  match args with
  | [.int .i64 n, .int .i64 lo, .int .i64 hi] =>
    if -9223372036854775808 ≤ n ∧ n ≤ 9223372036854775807 ∧ -1000000000000 ≤ lo ∧ lo ≤ hi ∧ hi ≤ 2000000000000 then some (.int .i64 (lo + n % (hi - lo + 1)), h) else none
  | [.chan (some i), .int .i64 lo, .int .i64 hi] =>
    if -1000000000000 ≤ lo ∧ lo ≤ hi ∧ hi ≤ 2000000000000 ∧ ((i / 4096 : Nat) : Int) = hi - lo + 1 then some (.int .i64 (lo + ((i % 4096 : Nat) : Int)), h) else none
  | _ => none
def XWithin : Known := fun f => if f = 13 then some withinG else none

theorem vr_int {μ : Mu} {n : Int} {v : Value} (h : VR μ (.int .i64 n) v) : v = .int .i64 n := vr_plain_eq h rfl

theorem knownOk_within : KnownOk Try.prog XWithin := by
  intro f g hg args h v h' he
  unfold XWithin at hg
  split at hg
  · rename_i hf; subst hf
    simp only [Option.some.injEq] at hg; subst hg
    have hname : ∀ (args' : Array Value) (w : World), (callFunc 13 args').run Try.prog w = .ok (.enter 13 args') w := by
      intro args' w
      have hn := Try.progOk.name Try.func13
      obtain ⟨c, hb⟩ : ∃ c, Try.f13.body = some c := ⟨_, rfl⟩
      simp [callFunc, Try.func13, hn, hb]
    unfold withinG at he
    split at he
    · rename_i n lo hi
      split at he
      · rename_i hc
        obtain ⟨a1, a2, a3, a4, a5⟩ := hc
        simp only [Option.some.injEq, Prod.mk.injEq] at he; obtain ⟨rfl, rfl⟩ := he
        refine ⟨Nat.le_refl _, fun {μ base w args'} hl hr _ => .inr ⟨hname args' w, ?_⟩⟩
        obtain ⟨v1, l1, e1, r1, hl⟩ := hl.inv_cons
        obtain ⟨v2, l2, e2, r2, hl⟩ := hl.inv_cons
        obtain ⟨v3, l3, e3, r3, hl⟩ := hl.inv_cons
        have e4 := hl.inv_nil
        rw [vr_int r1] at e1; rw [vr_int r2] at e2; rw [vr_int r3] at e3
        subst e4; subst e3; subst e2
        have : args' = #[.int .i64 n, .int .i64 lo, .int .i64 hi] := Array.toList_inj.1 e1
        subst this
        refine (within_walk n lo hi w ⟨a1, a2⟩ a3 a4 a5).mono ?_
        rintro e w' ⟨rfl, rfl⟩
        exact ⟨_, rfl, μ, .same (.plain1 rfl) (Sim.refl hr) rfl (.refl μ _)⟩
      · cases he
    · rename_i i lo hi
      split at he
      · rename_i hc
        obtain ⟨a3, a4, a5, a6⟩ := hc
        simp only [Option.some.injEq, Prod.mk.injEq] at he; obtain ⟨rfl, rfl⟩ := he
        refine ⟨Nat.le_refl _, fun {μ base w args'} hl hr _ => .inr ⟨hname args' w, ?_⟩⟩
        obtain ⟨v1, l1, e1, r1, hl⟩ := hl.inv_cons
        obtain ⟨v2, l2, e2, r2, hl⟩ := hl.inv_cons
        obtain ⟨v3, l3, e3, r3, hl⟩ := hl.inv_cons
        have e4 := hl.inv_nil
        rw [vr_int r2] at e2; rw [vr_int r3] at e3
        obtain ⟨n, rfl, b1, b2, b3⟩ := vr_tok r1
        subst e4; subst e3; subst e2
        have : args' = #[.int .i64 n, .int .i64 lo, .int .i64 hi] := Array.toList_inj.1 e1
        subst this
        refine (within_walk n lo hi w ⟨b1, b2⟩ a3 a4 a5).mono ?_
        rintro e w' ⟨rfl, rfl⟩
        rw [← a6, b3]
        exact ⟨_, rfl, μ, .same (.plain1 rfl) (Sim.refl hr) rfl (.refl μ _)⟩
      · cases he
    · cases he
  · cases hg
end Go.Proofs.Ytolkoacllaaceaa
