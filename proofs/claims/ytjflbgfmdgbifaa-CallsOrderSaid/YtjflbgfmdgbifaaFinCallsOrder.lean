/-
  CallsOrder: the program's law is true for all numbers, and what was there stays as it was. No conditions.
  The numbers count by their rests alone (YtjflbgfmdgbifaaAbs20); for each of these the code is run by the abstract evaluator, in the kernel; the evaluator is sound (YtjflbgfmdgbifaaAbs17).
-/
import Derived.Test.YtjflbgfmdgbifaaFinCallsOrderP0
import Derived.Test.YtjflbgfmdgbifaaFinCallsOrderP1
namespace Go.Proofs.Ytjflbgfmdgbifaa
open Go.ChangeShapes Go.WideShapes Go.ChangeAt Go.RowKit Go.Abs

theorem callsOrder_run : ∀ i0 : Nat, i0 < 13 → ∀ i1 : Nat, i1 < 9 → callsOrder_ok i0 i1 = true
  | 0, _ => callsOrder_run_0
  | 1, _ => callsOrder_run_1
  | 2, _ => callsOrder_run_2
  | 3, _ => callsOrder_run_3
  | 4, _ => callsOrder_run_4
  | 5, _ => callsOrder_run_5
  | 6, _ => callsOrder_run_6
  | 7, _ => callsOrder_run_7
  | 8, _ => callsOrder_run_8
  | 9, _ => callsOrder_run_9
  | 10, _ => callsOrder_run_10
  | 11, _ => callsOrder_run_11
  | 12, _ => callsOrder_run_12
  | n + 13, h => absurd h (by omega)
theorem callsOrder_body : ∃ c, Try.f4.body = some c := ⟨_, rfl⟩

theorem callsOrder_calls (a0 a1 : Int) (h0 : -9223372036854775808 ≤ a0 ∧ a0 ≤ 9223372036854775807) (h1 : -9223372036854775808 ≤ a1 ∧ a1 ≤ 9223372036854775807) (w : World) :
    Calls Try.prog 4 #[.int .i64 a0, .int .i64 a1] w fun e w' => Below w.heap.size w w' ∧ e = .returned (.bool true) := by
  have g0 : (a0 % 13).toNat < 13 := by omega
  have g1 : (a1 % 9).toNat < 9 := by omega
  have h := callsOrder_run _ g0 _ g1
  unfold callsOrder_ok at h
  rw [← callF_eq] at h
  obtain ⟨c, hc⟩ := callsOrder_body
  split at h
  · rename_i h' he
    refine (calls_of_callN Try.progOk knownOk_within vbeq_eq Try.func4 hc he (args' := #[.int .i64 a0, .int .i64 a1]) ?_ w).mono ?_
    · exact All2.cons (.zero (.tok (tok_mk (by omega) h0 (by omega)))) (All2.cons (.zero (.tok (tok_mk (by omega) h1 (by omega)))) (All2.nil))
    · rintro e w' ⟨h1, v', μ', rfl, ho⟩
      exact ⟨h1, by rw [vr_plain_eq ho.val rfl]⟩
  · cases h

set_option maxRecDepth 100000 in
theorem callsOrder_lifted (os : Os) (started : os.Started) (H : Type) (enc : TypeId × Value → H) :
    ReturnsInHanded {} Try.checked os 4 .any (Rows.callsOrderSpec.pre6 enc Try.prog Try.f4 Rows.callsOrderRow.domain false) (Rows.callsOrderSpec.post enc Try.prog Try.f4 false true false false) := by
  refine returnsInHanded_of_change (C := Try.checked) Try.own started (by kernel_rfl) Try.func4
    (ChangeSpec.witness6 (enc := enc) (C := Try.checked) false ⟨#[], #[.int .i64 0, .int .i64 0], []⟩ 8 (by kernel_rfl) (by kernel_rfl) (by kernel_rfl) (by kernel_rfl)) ?_
  intro W base args ds gs before hval0 hW hcnd _
  have hval : ∀ (j : Nat) t v, Try.f4.params[j]? = some t → args[j]? = some v → Value.okWide Try.prog W .any base t v := hval0
  have hW' := hW
  obtain ⟨p, q, hA0, hV, rfl, hfz, hnd⟩ := hW
  have hA : DataW.TrodAll enc Try.prog W 0 (fun _ => true) true Try.f4.params.toList args.toList ds p := hA0
  rw [Try.params4] at hA hval
  obtain ⟨v0, v1, d0, d1, p0, p1, rfl, rfl, rfl, h0, h1⟩ := trodAll_two hA
  obtain ⟨rfl, rfl⟩ := trodVars_none hV
  obtain ⟨a0, rfl, rfl, rfl, wa0⟩ := open_int Try.underlying3 (hval 0 3 v0 rfl rfl) h0
  obtain ⟨a1, rfl, rfl, rfl, wa1⟩ := open_int Try.underlying3 (hval 1 3 v1 rfl rfl) h1
  clear hA0 hval0
  simp only [List.append_nil] at hW'
  refine (callsOrder_calls a0 a1 (i64_range wa0) (i64_range wa1) W).mono fun e W' ⟨hb, he⟩ => ?_
  subst he
  exact ⟨_, rfl, post_below (pa := []) (pv := []) hW' (fun _ _ _ => trodAll_mk1 (shut_bool Try.underlying4 true)) (fun sp _ => trodAll_mk2 (shut_int Try.underlying3 wa0) (shut_int Try.underlying3 wa1)) (fun _ _ => rfl) rfl hb (ok_one (by kernel_rfl) rfl (okWide_bool_mk Try.underlying4 true))⟩

theorem callsOrder_holds : Rows.CallsOrderSaid :=
  OpenClaim.holds_of_wide 4 Try.f4 rfl rfl rfl rfl rfl rfl rfl ⟨rfl, rfl, rfl, rfl, rfl⟩ rfl rfl rfl rfl rfl (by kernel_rfl) Try.func4 (by kernel_rfl)
    (of_decide_eq_true (by kernel_rfl)) (by unfold Func.isWrapper; first | (rw [if_pos (by decide +kernel)]; kernel_rfl) | (rw [if_neg (by decide +kernel)]; exact ⟨rfl, rfl⟩))
    (fun os started H enc _ => callsOrder_lifted os started H enc)
end Go.Proofs.Ytjflbgfmdgbifaa
