/-
  MirrorForms: the program's law is true for all numbers, and what was there stays as it was. No conditions.
-/
import Derived.Test.YtmhfnbbamoadgaaFormV
namespace Go.Proofs.Ytmhfnbbamoadgaa
open Go.ChangeShapes Go.WideShapes Go.ChangeAt Go.RowKit Go.Abs

theorem mirrorRuns_run : (callN vbeq Try.prog X0 60 3 [] H0).map (·.1) = some (.bool true) := by
  rw [callF_eq]
  kernel_rfl
theorem mirrorRuns_body : ∃ c, Try.f3.body = some c := ⟨_, rfl⟩
theorem formCons_ok : ConOk Try.prog (formCons std recOf) := by
  obtain ⟨c, hc⟩ := mirrorRuns_body
  refine draw_ok (tellG_ok (conL_ok fun x hx => ?_) _) fun x hx => ?_
  · simp only [List.mem_cons, List.not_mem_nil, or_false] at hx
    rcases hx with rfl | rfl | rfl | rfl | rfl
    · exact withinE_ok
    · exact recC_ok
    · exact readC_ok
    · exact mayC_ok
    · exact closedC_ok (knownOk_none Try.prog) Try.func3 hc rfl mirrorRuns_run
  · simp only [List.mem_cons, List.not_mem_nil, or_false] at hx
    subst hx
    exact mayD_ok
theorem imax_one {k : Int} (h : 1 ≤ k) : std.imax k 1 = k := by
  show (if (1 : Int) > k then 1 else k) = k
  rw [if_neg (by omega)]
set_option maxHeartbeats 4000000 in
theorem form_run (h what a : Int) (hh : -9223372036854775808 ≤ h ∧ h ≤ 9223372036854775807) (hw : -9223372036854775808 ≤ what ∧ what ≤ 9223372036854775807) (ha : -9223372036854775808 ≤ a ∧ a ≤ 9223372036854775807) :
    lawV std Try.prog (formCons std recOf) (inCallF 60) 90 (fun _ => none) Try.f5 (bodyS Try.prog 5) [mk (.int .i64 h), mk (.int .i64 what), mk (.int .i64 a)] H0 (fun v _ => v = .bool true) := by
  rw [form_vc]
  repeat' first
    | exact hh
    | exact hw
    | exact ha
    | (refine And.intro ?_ ?_)
    | (intro (k : Int) (hk : 1 ≤ k ∧ k ≤ 16) _
       have him := imax_one hk.1)
    | (intro (n : Int) (hn : 0 ≤ n ∧ n ≤ 1000) _
       have hsh := rec_short n 2)
    | (refine Exists.intro n (Exists.intro 2 ?_))
    | (intro q; simp only [decide_eq_true_eq] at q)
    | (intro q; simp only [decide_eq_false_iff_not] at q)
    | (intro q; simp only [Bool.not_eq_true', beq_eq_false_iff_ne, ne_eq] at q)
    | (intro q; simp only [Bool.not_eq_false', beq_iff_eq] at q)
    | (intro q; simp only [beq_iff_eq] at q)
    | (intro q; simp only [beq_eq_false_iff_ne, ne_eq] at q)
    | (intro q)
  all_goals first
    | exact trivial
    | rfl
    | omega
    | (refine decide_eq_true ?_; omega)
    | (refine decide_eq_false ?_; omega)
    | exact Nat.le_of_ble_eq_true rfl
    | (exfalso; omega)
    | exact absurd trivial ‹¬True›
theorem mirrorForms_body : Try.f5.body = some (bodyS Try.prog 5) := by kernel_rfl
set_option maxRecDepth 100000 in
theorem mirrorForms_calls (a0 a1 a2 : Int) (h0 : -9223372036854775808 ≤ a0 ∧ a0 ≤ 9223372036854775807) (h1 : -9223372036854775808 ≤ a1 ∧ a1 ≤ 9223372036854775807) (h2 : -9223372036854775808 ≤ a2 ∧ a2 ≤ 9223372036854775807) (w : World) :
    Calls Try.prog 5 #[.int .i64 a0, .int .i64 a1, .int .i64 a2] w fun e w' => Below w.heap.size w w' ∧ e = .returned (.bool true) :=
  law_callsF Try.progOk formCons_ok (inCallF_ok 60) Try.func5 mirrorForms_body (args := [mk (.int .i64 a0), mk (.int .i64 a1), mk (.int .i64 a2)]) (h0 := H0) (fun b x h => by unfold H0 Hp.get at h; simp at h) (form_run a0 a1 a2 h0 h1 h2) (μ := MuN)
    (All2.cons (.zero (.mark (.plain rfl) rfl)) (All2.cons (.zero (.mark (.plain rfl) rfl)) (All2.cons (.zero (.mark (.plain rfl) rfl)) All2.nil))) (rel_none _ (Nat.le_refl _)) (fun _ _ => rfl)
set_option maxRecDepth 100000 in
theorem mirrorForms_lifted (os : Os) (started : os.Started) (H : Type) (enc : TypeId × Value → H) :
    ReturnsInHanded {} Try.checked os 5 .any (Rows.mirrorFormsSpec.pre6 enc Try.prog Try.f5 Rows.mirrorFormsRow.domain false) (Rows.mirrorFormsSpec.post enc Try.prog Try.f5 false true false false) := by
  refine returnsInHanded_of_change (C := Try.checked) Try.own started (by kernel_rfl) Try.func5
    (ChangeSpec.witness6 (enc := enc) (C := Try.checked) false ⟨#[], #[.int .i64 0, .int .i64 0, .int .i64 0], []⟩ 8 (by kernel_rfl) (by kernel_rfl) (by kernel_rfl) (by kernel_rfl)) ?_
  intro W base args ds gs before hval0 hW hcnd _
  have hval : ∀ (j : Nat) t v, Try.f5.params[j]? = some t → args[j]? = some v → Value.okWide Try.prog W .any base t v := hval0
  have hW' := hW
  obtain ⟨p, q, hA0, hV, rfl, hfz, hnd⟩ := hW
  have hA : DataW.TrodAll enc Try.prog W 0 (fun _ => true) true Try.f5.params.toList args.toList ds p := hA0
  rw [Try.params5] at hA hval
  obtain ⟨v0, v1, v2, d0, d1, d2, p0, p1, p2, rfl, rfl, rfl, h0, h1, h2⟩ := trodAll_three hA
  obtain ⟨rfl, rfl⟩ := trodVars_none hV
  obtain ⟨a0, rfl, rfl, rfl, wa0⟩ := open_int Try.underlying3 (hval 0 3 v0 rfl rfl) h0
  obtain ⟨a1, rfl, rfl, rfl, wa1⟩ := open_int Try.underlying3 (hval 1 3 v1 rfl rfl) h1
  obtain ⟨a2, rfl, rfl, rfl, wa2⟩ := open_int Try.underlying3 (hval 2 3 v2 rfl rfl) h2
  clear hA0 hval0
  simp only [List.append_nil] at hW'
  refine (mirrorForms_calls a0 a1 a2 (i64_range wa0) (i64_range wa1) (i64_range wa2) W).mono fun e W' ⟨hb, he⟩ => ?_
  subst he
  exact ⟨_, rfl, post_below (pa := []) (pv := []) hW' (fun _ _ _ => trodAll_mk1 (shut_bool Try.underlying4 true)) (fun sp _ => trodAll_mk3 (shut_int Try.underlying3 wa0) (shut_int Try.underlying3 wa1) (shut_int Try.underlying3 wa2)) (fun _ _ => rfl) rfl hb (ok_one (by kernel_rfl) rfl (okWide_bool_mk Try.underlying4 true))⟩

theorem mirrorForms_holds : Rows.MirrorFormsSaid :=
  OpenClaim.holds_of_wide 5 Try.f5 rfl rfl rfl rfl rfl rfl rfl ⟨rfl, rfl, rfl, rfl, rfl⟩ rfl rfl rfl rfl rfl (by kernel_rfl) Try.func5 (by kernel_rfl)
    (of_decide_eq_true (by kernel_rfl)) (by unfold Func.isWrapper; first | (rw [if_pos (by decide +kernel)]; kernel_rfl) | (rw [if_neg (by decide +kernel)]; exact ⟨rfl, rfl⟩))
    (fun os started H enc _ => mirrorForms_lifted os started H enc)
end Go.Proofs.Ytmhfnbbamoadgaa
