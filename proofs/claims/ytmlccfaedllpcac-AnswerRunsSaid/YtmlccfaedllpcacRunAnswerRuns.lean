/-
  AnswerRuns: a closed sentence of the program is true, and what was there stays as it was. No conditions.
  The code is run by the abstract evaluator, in the kernel; the evaluator is sound (YtmlccfaedllpcacAbs17).
-/
import Derived.Test.YtmlccfaedllpcacAbs19
namespace Go.Proofs.Ytmlccfaedllpcac
open Go.ChangeShapes Go.WideShapes Go.ChangeAt Go.RowKit Go.Abs

theorem answerRuns_run : (callN vbeq Try.prog X0 3000 3 [] H0).map (·.1) = some (.bool true) := by kernel_rfl
theorem answerRuns_body : ∃ c, Try.f3.body = some c := ⟨_, rfl⟩

set_option maxRecDepth 100000 in
theorem answerRuns_lifted (os : Os) (started : os.Started) (H : Type) (enc : TypeId × Value → H) :
    ReturnsInHanded {} Try.checked os 3 .any (Rows.answerRunsSpec.pre6 enc Try.prog Try.f3 Rows.answerRunsRow.domain false) (Rows.answerRunsSpec.post enc Try.prog Try.f3 false true false false) := by
  refine returnsInHanded_of_change (C := Try.checked) Try.own started (by kernel_rfl) Try.func3
    (ChangeSpec.witness6 (enc := enc) (C := Try.checked) false ⟨#[], #[], []⟩ 8 (by kernel_rfl) (by kernel_rfl) (by kernel_rfl) (by kernel_rfl)) ?_
  intro W base args ds gs before hval0 hW hcnd _
  have hW' := hW
  obtain ⟨p, q, hA0, hV, rfl, hfz, hnd⟩ := hW
  have hA : DataW.TrodAll enc Try.prog W 0 (fun _ => true) true Try.f3.params.toList args.toList ds p := hA0
  rw [Try.params3] at hA
  obtain ⟨rfl, rfl, rfl⟩ := trodAll_none hA
  obtain ⟨rfl, rfl⟩ := trodVars_none hV
  clear hA0 hval0
  obtain ⟨c, hc⟩ := answerRuns_body
  refine (calls_plain (knownOk_none Try.prog) Try.func3 hc (v := .bool true) rfl answerRuns_run W).mono fun e W' ⟨hb, he⟩ => ?_
  subst he
  exact ⟨_, rfl, post_below (pa := []) (pv := []) hW' (fun _ _ _ => trodAll_mk1 (shut_bool Try.underlying4 true)) (fun sp _ => trodAll_mk0) (fun _ _ => rfl) rfl hb (ok_one (by kernel_rfl) rfl (okWide_bool_mk Try.underlying4 true))⟩

theorem answerRuns_holds : Rows.AnswerRunsSaid :=
  OpenClaim.holds_of_wide 3 Try.f3 rfl rfl rfl rfl rfl rfl rfl ⟨rfl, rfl, rfl, rfl, rfl⟩ rfl rfl rfl rfl rfl (by kernel_rfl) Try.func3 (by kernel_rfl)
    (of_decide_eq_true (by kernel_rfl)) (by unfold Func.isWrapper; first | (rw [if_pos (by decide +kernel)]; kernel_rfl) | (rw [if_neg (by decide +kernel)]; exact ⟨rfl, rfl⟩))
    (fun os started H enc _ => answerRuns_lifted os started H enc)
end Go.Proofs.Ytmlccfaedllpcac
