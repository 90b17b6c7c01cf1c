/-
  CallsFull: the program's law is true for all numbers, and what was there stays as it was. No conditions.
  The numbers count by their rests alone (YtjflbgfmdgbifaaAbs20); for each of these the code is run by the abstract evaluator, in the kernel; the evaluator is sound (YtjflbgfmdgbifaaAbs17).
-/
import Derived.Test.YtjflbgfmdgbifaaFinCallsFullP0
import Derived.Test.YtjflbgfmdgbifaaFinCallsFullP1
namespace Go.Proofs.Ytjflbgfmdgbifaa
open Go.ChangeShapes Go.WideShapes Go.ChangeAt Go.RowKit Go.Abs

theorem callsFull_run : ∀ i0 : Nat, i0 < 21 → callsFull_ok i0 = true
  | 0, _ => callsFull_run_0
  | 1, _ => callsFull_run_1
  | 2, _ => callsFull_run_2
  | 3, _ => callsFull_run_3
  | 4, _ => callsFull_run_4
  | 5, _ => callsFull_run_5
  | 6, _ => callsFull_run_6
  | 7, _ => callsFull_run_7
  | 8, _ => callsFull_run_8
  | 9, _ => callsFull_run_9
  | 10, _ => callsFull_run_10
  | 11, _ => callsFull_run_11
  | 12, _ => callsFull_run_12
  | 13, _ => callsFull_run_13
  | 14, _ => callsFull_run_14
  | 15, _ => callsFull_run_15
  | 16, _ => callsFull_run_16
  | 17, _ => callsFull_run_17
  | 18, _ => callsFull_run_18
  | 19, _ => callsFull_run_19
  | 20, _ => callsFull_run_20
  | n + 21, h => absurd h (by omega)
theorem callsFull_body : ∃ c, Try.f5.body = some c := ⟨_, rfl⟩

theorem callsFull_calls (a0 : Int) (h0 : -9223372036854775808 ≤ a0 ∧ a0 ≤ 9223372036854775807) (w : World) :
    Calls Try.prog 5 #[.int .i64 a0] w fun e w' => Below w.heap.size w w' ∧ e = .returned (.bool true) := by
  have g0 : (a0 % 21).toNat < 21 := by omega
  have h := callsFull_run _ g0
  unfold callsFull_ok at h
  rw [← callF_eq] at h
  obtain ⟨c, hc⟩ := callsFull_body
  split at h
  · rename_i h' he
    refine (calls_of_callN Try.progOk knownOk_within vbeq_eq Try.func5 hc he (args' := #[.int .i64 a0]) ?_ w).mono ?_
    · exact All2.cons (.zero (.tok (tok_mk (by omega) h0 (by omega)))) (All2.nil)
    · rintro e w' ⟨h1, v', μ', rfl, ho⟩
      exact ⟨h1, by rw [vr_plain_eq ho.val rfl]⟩
  · cases h

set_option maxRecDepth 100000 in
theorem callsFull_lifted (os : Os) (started : os.Started) (H : Type) (enc : TypeId × Value → H) :
    ReturnsInHanded {} Try.checked os 5 .any (Rows.callsFullSpec.pre6 enc Try.prog Try.f5 Rows.callsFullRow.domain false) (Rows.callsFullSpec.post enc Try.prog Try.f5 false true false false) := by
  refine returnsInHanded_of_change (C := Try.checked) Try.own started (by kernel_rfl) Try.func5
    (ChangeSpec.witness6 (enc := enc) (C := Try.checked) false ⟨#[], #[.int .i64 0], []⟩ 8 (by kernel_rfl) (by kernel_rfl) (by kernel_rfl) (by kernel_rfl)) ?_
  intro W base args ds gs before hval0 hW hcnd _
  have hval : ∀ (j : Nat) t v, Try.f5.params[j]? = some t → args[j]? = some v → Value.okWide Try.prog W .any base t v := hval0
  have hW' := hW
  obtain ⟨p, q, hA0, hV, rfl, hfz, hnd⟩ := hW
  have hA : DataW.TrodAll enc Try.prog W 0 (fun _ => true) true Try.f5.params.toList args.toList ds p := hA0
  rw [Try.params5] at hA hval
  obtain ⟨v0, d0, rfl, rfl, h0⟩ := trodAll_one hA
  obtain ⟨rfl, rfl⟩ := trodVars_none hV
  obtain ⟨a0, rfl, rfl, rfl, wa0⟩ := open_int Try.underlying3 (hval 0 3 v0 rfl rfl) h0
  clear hA0 hval0
  simp only [List.append_nil] at hW'
  refine (callsFull_calls a0 (i64_range wa0) W).mono fun e W' ⟨hb, he⟩ => ?_
  subst he
  exact ⟨_, rfl, post_below (pa := []) (pv := []) hW' (fun _ _ _ => trodAll_mk1 (shut_bool Try.underlying4 true)) (fun sp _ => trodAll_mk1 (shut_int Try.underlying3 wa0)) (fun _ _ => rfl) rfl hb (ok_one (by kernel_rfl) rfl (okWide_bool_mk Try.underlying4 true))⟩

theorem callsFull_holds : Rows.CallsFullSaid :=
  OpenClaim.holds_of_wide 5 Try.f5 rfl rfl rfl rfl rfl rfl rfl ⟨rfl, rfl, rfl, rfl, rfl⟩ rfl rfl rfl rfl rfl (by kernel_rfl) Try.func5 (by kernel_rfl)
    (of_decide_eq_true (by kernel_rfl)) (by unfold Func.isWrapper; first | (rw [if_pos (by decide +kernel)]; kernel_rfl) | (rw [if_neg (by decide +kernel)]; exact ⟨rfl, rfl⟩))
    (fun os started H enc _ => callsFull_lifted os started H enc)
end Go.Proofs.Ytjflbgfmdgbifaa
