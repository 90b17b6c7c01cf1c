/-
  RateRuns: a closed sentence of the program is true, and what was there stays as it was. No conditions.
-/
import Derived.Test.YtddejgkfgnokgaaSortT
namespace Go.Proofs.Ytddejgkfgnokgaa
open Go.ChangeShapes Go.WideShapes Go.ChangeAt Go.RowKit Go.Abs
noncomputable def bodyOf (P : Program) (f : Nat) : Code := ((P.funcs[f]?).bind (·.body)).getD .skip
noncomputable def sortCons : Con := conL [(27, sortedTC)]
theorem sortCons_ok : ConOk Try.prog sortCons := by
  refine conL_ok fun x hx => ?_
  simp only [List.mem_cons, List.not_mem_nil, or_false] at hx
  subst hx
  exact sortedTC_ok
theorem rateRuns_vc : runV std Try.prog sortCons (inCall 60) 80 noLoops 0 (bodyOf Try.prog 3) ⟨List.replicate (Try.f3.ntmps - 0) undef, H0⟩ (resK Try.prog Try.f3 fun v _ => v = .bool true) = (Value.bool true = .bool true) := by
  kernel_rfl
theorem rateRuns_body : Try.f3.body = some (bodyOf Try.prog 3) := by kernel_rfl
theorem rateRuns_calls (w : World) : Calls Try.prog 3 #[] w fun e w' => Below w.heap.size w w' ∧ e = .returned (.bool true) :=
  law_calls Try.progOk sortCons_ok (inCall_ok 60) Try.func3 rateRuns_body (args := []) (h0 := H0) (fun b x h => by unfold H0 Hp.get at h; simp at h) (LS := noLoops) (n := 80) (by rw [show runV std Try.prog sortCons (inCall 60) 80 noLoops H0.next (bodyOf Try.prog 3) ⟨[] ++ List.replicate (Try.f3.ntmps - [].length) undef, H0⟩ (resK Try.prog Try.f3 fun v _ => v = .bool true) = _ from rateRuns_vc])
    (μ := MuN) All2.nil (rel_none _ (Nat.le_refl _)) (fun _ _ => rfl)
set_option maxRecDepth 100000 in
theorem rateRuns_lifted (os : Os) (started : os.Started) (H : Type) (enc : TypeId × Value → H) :
    ReturnsInHanded {} Try.checked os 3 .any (Rows.rateRunsSpec.pre6 enc Try.prog Try.f3 Rows.rateRunsRow.domain false) (Rows.rateRunsSpec.post enc Try.prog Try.f3 false true false false) := by
  refine returnsInHanded_of_change (C := Try.checked) Try.own started (by kernel_rfl) Try.func3
    (ChangeSpec.witness6 (enc := enc) (C := Try.checked) false ⟨#[], #[], []⟩ 8 (by kernel_rfl) (by kernel_rfl) (by kernel_rfl) (by kernel_rfl)) ?_
  intro W base args ds gs before hval0 hW hcnd _
  have hW' := hW
  obtain ⟨p, q, hA0, hV, rfl, hfz, hnd⟩ := hW
  have hA : DataW.TrodAll enc Try.prog W 0 (fun _ => true) true Try.f3.params.toList args.toList ds p := hA0
  rw [Try.params3] at hA
  obtain ⟨rfl, rfl, rfl⟩ := trodAll_none hA
  obtain ⟨rfl, rfl⟩ := trodVars_none hV
  clear hA0 hval0
  refine (rateRuns_calls W).mono fun e W' ⟨hb, he⟩ => ?_
  subst he
  exact ⟨_, rfl, post_below (pa := []) (pv := []) hW' (fun _ _ _ => trodAll_mk1 (shut_bool Try.underlying4 true)) (fun sp _ => trodAll_mk0) (fun _ _ => rfl) rfl hb (ok_one (by kernel_rfl) rfl (okWide_bool_mk Try.underlying4 true))⟩

theorem rateRuns_holds : Rows.RateRunsSaid :=
  OpenClaim.holds_of_wide 3 Try.f3 rfl rfl rfl rfl rfl rfl rfl ⟨rfl, rfl, rfl, rfl, rfl⟩ rfl rfl rfl rfl rfl (by kernel_rfl) Try.func3 (by kernel_rfl)
    (of_decide_eq_true (by kernel_rfl)) (by unfold Func.isWrapper; first | (rw [if_pos (by decide +kernel)]; kernel_rfl) | (rw [if_neg (by decide +kernel)]; exact ⟨rfl, rfl⟩))
    (fun os started H enc _ => rateRuns_lifted os started H enc)
end Go.Proofs.Ytddejgkfgnokgaa

