/-
  QueryShut: the program's law is true for all numbers, and what was there stays as it was. No conditions.
-/
import Derived.Test.YtledddhagpgfaaaShutV
namespace Go.Proofs.Ytledddhagpgfaaa
open Go.ChangeShapes Go.WideShapes Go.ChangeAt Go.RowKit Go.Abs

theorem runsC_ok : ∀ args h K, closedC (.bool true) args h K → CallSem Try.prog 3 args h K := by
  intro args h K e μ base w args' hl hrel hfree
  unfold closedC at e
  split at e
  case h_2 => exact e.elim
  have : args' = #[] := Array.toList_eq_nil_iff.1 hl.inv_nil
  subst this
  have hn := Try.progOk.name Try.func3
  have hb := queryRuns_body
  refine .inr ⟨by simp [callFunc, Try.func3, hn, hb], ?_⟩
  refine (queryRuns_calls w).mono ?_
  rintro en w' ⟨h1, rfl⟩
  exact ⟨.bool true, rfl, .bool true, h, μ, e, cout_below hrel hfree h1 (.plain1 rfl)⟩
theorem shutCons_ok : ConOk Try.prog (shutCons std) := by
  refine conL_ok fun x hx => ?_
  simp only [List.mem_cons, List.not_mem_nil, or_false] at hx
  rcases hx with rfl | rfl | rfl
  · exact withinC_ok
  · exact runsC_ok
  · exact sortedIC_ok

def shutI0 (d : Sh0) : Prop := (1 ≤ d.n ∧ d.n ≤ 20) ∧ (0 ≤ d.i ∧ d.i ≤ d.n) ∧ d.blk = 1 + d.i
def shutM0 (d : Sh0) : Nat := (d.n - d.i).toNat
def shutI1 (d : Sh1) : Prop := (1 ≤ d.n ∧ d.n ≤ 20) ∧ (0 ≤ d.i ∧ d.i ≤ d.n) ∧ d.blk = 1 + d.i ∧ (1 ≤ d.d ∧ d.d ≤ 8) ∧ d.due = d.blk + 1
def shutM1 (d : Sh1) : Nat := (d.n - d.i).toNat

set_option maxHeartbeats 4000000 in
theorem shut0_run (a b : Int) (ha : -9223372036854775808 ≤ a ∧ a ≤ 9223372036854775807) (hb : -9223372036854775808 ≤ b ∧ b ≤ 9223372036854775807) :
    runV std Try.prog (shutCons std) (inCall 60) 90 (shutL0 shutI0 shutM0) 0 (bodyOf Try.prog 7) ⟨[mk (.int .i64 a), mk (.int .i64 b), .bool true] ++ List.replicate (Try.f7.ntmps - 3) undef, H0⟩ (resK Try.prog Try.f7 fun v _ => v = .bool true) := by
  rw [shut0_vc]
  repeat' first
    | (intro (d : Sh0); obtain ⟨_, _, _⟩ := d; dsimp only [shutI0])
    | (refine Exists.intro (Sh0.mk _ _ _) (And.intro rfl ?_))
    | (refine And.intro ?_ ?_)
    | (intro h; simp only [decide_eq_true_eq, decide_eq_false_iff_not] at h)
    | (intro h)
  all_goals first
    | omega
    | rfl
    | (exfalso; omega)
    | (change shutM0 _ < shutM0 _; dsimp only [shutM0]; omega)
    | (dsimp only; omega)
    | skip

set_option maxHeartbeats 4000000 in
theorem shut1_run (a b : Int) (ha : -9223372036854775808 ≤ a ∧ a ≤ 9223372036854775807) (hb : -9223372036854775808 ≤ b ∧ b ≤ 9223372036854775807) :
    runV std Try.prog (shutCons std) (inCall 60) 90 (shutL1 shutI1 shutM1) 0 (bodyOf Try.prog 7) ⟨[mk (.int .i64 a), mk (.int .i64 b), .bool false] ++ List.replicate (Try.f7.ntmps - 3) undef, H0⟩ (resK Try.prog Try.f7 fun v _ => v = .bool true) := by
  rw [shut1_vc]
  repeat' first
    | (intro (d : Sh1); obtain ⟨_, _, _, _, _, _⟩ := d; dsimp only [shutI1])
    | (refine Exists.intro (Sh1.mk _ _ _ _ _ _) (And.intro rfl ?_))
    | (refine And.intro ?_ ?_)
    | (intro h; simp only [decide_eq_true_eq, decide_eq_false_iff_not, beq_iff_eq, beq_eq_false_iff_ne, ne_eq] at h)
    | (intro h)
  all_goals first
    | omega
    | rfl
    | (exfalso; omega)
    | (change shutM1 _ < shutM1 _; dsimp only [shutM1]; omega)
    | (dsimp only; omega)
    | skip

theorem queryShut_body : Try.f7.body = some (bodyOf Try.prog 7) := by kernel_rfl
theorem queryShut_calls (a0 a1 : Int) (a2 : Bool) (h0 : -9223372036854775808 ≤ a0 ∧ a0 ≤ 9223372036854775807) (h1 : -9223372036854775808 ≤ a1 ∧ a1 ≤ 9223372036854775807) (w : World) :
    Calls Try.prog 7 #[.int .i64 a0, .int .i64 a1, .bool a2] w fun e w' => Below w.heap.size w w' ∧ e = .returned (.bool true) := by
  cases a2 with
  | true => exact law_calls Try.progOk shutCons_ok (inCall_ok 60) Try.func7 queryShut_body (args := [mk (.int .i64 a0), mk (.int .i64 a1), .bool true]) (h0 := H0) (fun b x h => by unfold H0 Hp.get at h; simp at h) (shut0_run a0 a1 h0 h1) (μ := MuN) (All2.cons (.zero (.mark (.plain rfl) rfl)) (All2.cons (.zero (.mark (.plain rfl) rfl)) (All2.cons (.plain1 rfl) All2.nil))) (rel_none _ (Nat.le_refl _)) (fun _ _ => rfl)
  | false => exact law_calls Try.progOk shutCons_ok (inCall_ok 60) Try.func7 queryShut_body (args := [mk (.int .i64 a0), mk (.int .i64 a1), .bool false]) (h0 := H0) (fun b x h => by unfold H0 Hp.get at h; simp at h) (shut1_run a0 a1 h0 h1) (μ := MuN) (All2.cons (.zero (.mark (.plain rfl) rfl)) (All2.cons (.zero (.mark (.plain rfl) rfl)) (All2.cons (.plain1 rfl) All2.nil))) (rel_none _ (Nat.le_refl _)) (fun _ _ => rfl)

set_option maxRecDepth 100000 in
theorem queryShut_lifted (os : Os) (started : os.Started) (H : Type) (enc : TypeId × Value → H) :
    ReturnsInHanded {} Try.checked os 7 .any (Rows.queryShutSpec.pre6 enc Try.prog Try.f7 Rows.queryShutRow.domain false) (Rows.queryShutSpec.post enc Try.prog Try.f7 false true false false) := by
  refine returnsInHanded_of_change (C := Try.checked) Try.own started (by kernel_rfl) Try.func7
    (ChangeSpec.witness6 (enc := enc) (C := Try.checked) false ⟨#[], #[.int .i64 0, .int .i64 0, .bool false], []⟩ 8 (by kernel_rfl) (by kernel_rfl) (by kernel_rfl) (by kernel_rfl)) ?_
  intro W base args ds gs before hval0 hW hcnd _
  have hval : ∀ (j : Nat) t v, Try.f7.params[j]? = some t → args[j]? = some v → Value.okWide Try.prog W .any base t v := hval0
  have hW' := hW
  obtain ⟨p, q, hA0, hV, rfl, hfz, hnd⟩ := hW
  have hA : DataW.TrodAll enc Try.prog W 0 (fun _ => true) true Try.f7.params.toList args.toList ds p := hA0
  rw [Try.params7] at hA hval
  obtain ⟨v0, v1, v2, d0, d1, d2, p0, p1, p2, rfl, rfl, rfl, h0, h1, h2⟩ := trodAll_three hA
  obtain ⟨rfl, rfl⟩ := trodVars_none hV
  obtain ⟨a0, rfl, rfl, rfl, wa0⟩ := open_int Try.underlying3 (hval 0 3 v0 rfl rfl) h0
  obtain ⟨a1, rfl, rfl, rfl, wa1⟩ := open_int Try.underlying3 (hval 1 3 v1 rfl rfl) h1
  obtain ⟨a2, rfl, rfl, rfl⟩ := open_bool Try.underlying4 (hval 2 4 v2 rfl rfl) h2
  clear hA0 hval0
  simp only [List.append_nil] at hW'
  refine (queryShut_calls a0 a1 a2 (i64_range wa0) (i64_range wa1) W).mono fun e W' ⟨hb, he⟩ => ?_
  subst he
  exact ⟨_, rfl, post_below (pa := []) (pv := []) hW' (fun _ _ _ => trodAll_mk1 (shut_bool Try.underlying4 true)) (fun sp _ => trodAll_mk3 (shut_int Try.underlying3 wa0) (shut_int Try.underlying3 wa1) (shut_bool Try.underlying4 a2)) (fun _ _ => rfl) rfl hb (ok_one (by kernel_rfl) rfl (okWide_bool_mk Try.underlying4 true))⟩

theorem queryShut_holds : Rows.QueryShutSaid :=
  OpenClaim.holds_of_wide 7 Try.f7 rfl rfl rfl rfl rfl rfl rfl ⟨rfl, rfl, rfl, rfl, rfl⟩ rfl rfl rfl rfl rfl (by kernel_rfl) Try.func7 (by kernel_rfl)
    (of_decide_eq_true (by kernel_rfl)) (by unfold Func.isWrapper; first | (rw [if_pos (by decide +kernel)]; kernel_rfl) | (rw [if_neg (by decide +kernel)]; exact ⟨rfl, rfl⟩))
    (fun os started H enc _ => queryShut_lifted os started H enc)
end Go.Proofs.Ytledddhagpgfaaa
