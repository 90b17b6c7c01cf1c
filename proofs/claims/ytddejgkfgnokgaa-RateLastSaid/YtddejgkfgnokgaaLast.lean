/-
  RateLast: the program's law is true for all numbers, and what was there stays as it was. No conditions.
-/
import Derived.Test.YtddejgkfgnokgaaLastV
namespace Go.Proofs.Ytddejgkfgnokgaa
open Go.ChangeShapes Go.WideShapes Go.ChangeAt Go.RowKit Go.Abs

theorem last_quo {x : Int} (h : 1 ≤ x) : std.quo (x * x) x = x := Int.mul_tdiv_cancel x (by omega)
theorem last_sq {x : Int} (h : 1 ≤ x ∧ x ≤ 100000) : 0 ≤ x * x ∧ x * x ≤ 10000000000 :=
  ⟨Int.mul_nonneg (by omega) (by omega), by have := Int.mul_le_mul h.2 h.2 (by omega) (by omega); omega⟩
set_option maxHeartbeats 4000000 in
theorem last1_run (a b : Int) (ha : -9223372036854775808 ≤ a ∧ a ≤ 9223372036854775807) (hb : -9223372036854775808 ≤ b ∧ b ≤ 9223372036854775807) :
    lawV std Try.prog (lastCons std) (inCallF 60) 90 (fun _ => none) Try.f7 (bodyR Try.prog 7) [mk (.int .i64 a), mk (.int .i64 b), .bool true] H0 (fun v _ => v = .bool true) := by
  rw [last1_vc]
  refine ⟨ha, fun x hx _ => ⟨hb, fun y hy _ => ?_⟩⟩
  have hf : std.feq (std.fof x) (std.fof x) = (x == x) := feq_fof ⟨by omega, by omega⟩ ⟨by omega, by omega⟩
  simp only [Int.zero_add, hf]
  repeat' first
    | (refine And.intro ?_ ?_)
    | (intro h; simp only [decide_eq_true_eq] at h)
    | (intro h)
  all_goals first
    | rfl
    | omega
    | (simp only [decide_eq_true_eq]; omega)
    | (simp only [decide_eq_false_iff_not]; omega)
    | (refine beq_eq_false_iff_ne.2 ?_; omega)
    | (simp; done)
    | (exfalso; omega)
set_option maxHeartbeats 4000000 in
theorem last0_run (a b : Int) (ha : -9223372036854775808 ≤ a ∧ a ≤ 9223372036854775807) (hb : -9223372036854775808 ≤ b ∧ b ≤ 9223372036854775807) :
    lawV std Try.prog (lastCons std) (inCallF 60) 90 (fun _ => none) Try.f7 (bodyR Try.prog 7) [mk (.int .i64 a), mk (.int .i64 b), .bool false] H0 (fun v _ => v = .bool true) := by
  rw [last0_vc]
  refine ⟨ha, fun x hx _ => ⟨hb, fun y hy _ => ?_⟩⟩
  have hf : std.feq (std.fof x) (std.fof x) = (x == x) := feq_fof ⟨by omega, by omega⟩ ⟨by omega, by omega⟩
  have hq := last_quo hx.1
  have hs := last_sq hx
  simp only [Int.zero_add, hf, hq, Int.sub_self]
  generalize x * x = s at hs
  repeat' first
    | (refine And.intro ?_ ?_)
    | (intro h)
  all_goals first
    | rfl
    | omega
    | (simp only [decide_eq_true_eq]; omega)
    | (simp only [decide_eq_false_iff_not]; omega)
    | (refine beq_eq_false_iff_ne.2 ?_; omega)
    | (simp; done)

theorem rateLast_body : Try.f7.body = some (bodyR Try.prog 7) := by kernel_rfl
theorem lastCons_ok : ConOk Try.prog (lastCons std) := rateCons_ok lastTell
theorem rateLast_calls (a0 a1 : Int) (a2 : Bool) (h0 : -9223372036854775808 ≤ a0 ∧ a0 ≤ 9223372036854775807) (h1 : -9223372036854775808 ≤ a1 ∧ a1 ≤ 9223372036854775807) (w : World) :
    Calls Try.prog 7 #[.int .i64 a0, .int .i64 a1, .bool a2] w fun e w' => Below w.heap.size w w' ∧ e = .returned (.bool true) := by
  cases a2 with
  | true => exact law_callsF Try.progOk lastCons_ok (inCallF_ok 60) Try.func7 rateLast_body (args := [mk (.int .i64 a0), mk (.int .i64 a1), .bool true]) (h0 := H0) (fun b x h => by unfold H0 Hp.get at h; simp at h) (last1_run a0 a1 h0 h1) (μ := MuN) (All2.cons (.zero (.mark (.plain rfl) rfl)) (All2.cons (.zero (.mark (.plain rfl) rfl)) (All2.cons (.plain1 rfl) All2.nil))) (rel_none _ (Nat.le_refl _)) (fun _ _ => rfl)
  | false => exact law_callsF Try.progOk lastCons_ok (inCallF_ok 60) Try.func7 rateLast_body (args := [mk (.int .i64 a0), mk (.int .i64 a1), .bool false]) (h0 := H0) (fun b x h => by unfold H0 Hp.get at h; simp at h) (last0_run a0 a1 h0 h1) (μ := MuN) (All2.cons (.zero (.mark (.plain rfl) rfl)) (All2.cons (.zero (.mark (.plain rfl) rfl)) (All2.cons (.plain1 rfl) All2.nil))) (rel_none _ (Nat.le_refl _)) (fun _ _ => rfl)
set_option maxRecDepth 100000 in
theorem rateLast_lifted (os : Os) (started : os.Started) (H : Type) (enc : TypeId × Value → H) :
    ReturnsInHanded {} Try.checked os 7 .any (Rows.rateLastSpec.pre6 enc Try.prog Try.f7 Rows.rateLastRow.domain false) (Rows.rateLastSpec.post enc Try.prog Try.f7 false true false false) := by
  refine returnsInHanded_of_change (C := Try.checked) Try.own started (by kernel_rfl) Try.func7
    (ChangeSpec.witness6 (enc := enc) (C := Try.checked) false ⟨#[], #[.int .i64 0, .int .i64 0, .bool false], []⟩ 8 (by kernel_rfl) (by kernel_rfl) (by kernel_rfl) (by kernel_rfl)) ?_
  intro W base args ds gs before hval0 hW hcnd _
  have hval : ∀ (j : Nat) t v, Try.f7.params[j]? = some t → args[j]? = some v → Value.okWide Try.prog W .any base t v := hval0
  have hW' := hW
  obtain ⟨p, q, hA0, hV, rfl, hfz, hnd⟩ := hW
  have hA : DataW.TrodAll enc Try.prog W 0 (fun _ => true) true Try.f7.params.toList args.toList ds p := hA0
  rw [Try.params7] at hA hval
  obtain ⟨v0, v1, v2, d0, d1, d2, p0, p1, p2, rfl, rfl, rfl, h0, h1, h2⟩ := trodAll_three hA
  obtain ⟨rfl, rfl⟩ := trodVars_none hV
  obtain ⟨a0, rfl, rfl, rfl, wa0⟩ := open_int Try.underlying3 (hval 0 3 v0 rfl rfl) h0
  obtain ⟨a1, rfl, rfl, rfl, wa1⟩ := open_int Try.underlying3 (hval 1 3 v1 rfl rfl) h1
  obtain ⟨a2, rfl, rfl, rfl⟩ := open_bool Try.underlying4 (hval 2 4 v2 rfl rfl) h2
  clear hA0 hval0
  simp only [List.append_nil] at hW'
  refine (rateLast_calls a0 a1 a2 (i64_range wa0) (i64_range wa1) W).mono fun e W' ⟨hb, he⟩ => ?_
  subst he
  exact ⟨_, rfl, post_below (pa := []) (pv := []) hW' (fun _ _ _ => trodAll_mk1 (shut_bool Try.underlying4 true)) (fun sp _ => trodAll_mk3 (shut_int Try.underlying3 wa0) (shut_int Try.underlying3 wa1) (shut_bool Try.underlying4 a2)) (fun _ _ => rfl) rfl hb (ok_one (by kernel_rfl) rfl (okWide_bool_mk Try.underlying4 true))⟩

theorem rateLast_holds : Rows.RateLastSaid :=
  OpenClaim.holds_of_wide 7 Try.f7 rfl rfl rfl rfl rfl rfl rfl ⟨rfl, rfl, rfl, rfl, rfl⟩ rfl rfl rfl rfl rfl (by kernel_rfl) Try.func7 (by kernel_rfl)
    (of_decide_eq_true (by kernel_rfl)) (by unfold Func.isWrapper; first | (rw [if_pos (by decide +kernel)]; kernel_rfl) | (rw [if_neg (by decide +kernel)]; exact ⟨rfl, rfl⟩))
    (fun os started H enc _ => rateLast_lifted os started H enc)
end Go.Proofs.Ytddejgkfgnokgaa
