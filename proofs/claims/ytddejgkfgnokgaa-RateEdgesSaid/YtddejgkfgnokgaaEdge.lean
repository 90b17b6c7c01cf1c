/-
  RateEdges: the program's law is true for all numbers, and what was there stays as it was. No conditions.
-/
import Derived.Test.YtddejgkfgnokgaaEdgeV
namespace Go.Proofs.Ytddejgkfgnokgaa
open Go.ChangeShapes Go.WideShapes Go.ChangeAt Go.RowKit Go.Abs
theorem edge0_run (a b : Int) (hb : b % 8 = 0) : lawV std Try.prog (edgeCons std 0) (inCallF 60) 90 (fun _ => none) Try.f4 (bodyR Try.prog 4) [mk (.int .i64 a), mk (.int .i64 b)] H0 (fun v _ => v = .bool true) := by
  rw [edge0_vc]
  simp only [Int.zero_add]
  repeat' first
    | (refine And.intro ?_ ?_)
  all_goals first
    | rfl
    | omega
    | (refine decide_eq_true ?_; omega)
    | (refine decide_eq_false ?_; omega)
    | (refine beq_eq_false_iff_ne.2 ?_; omega)
    | (simp; done)
theorem edge1_run (a b : Int) (hb : b % 8 = 1) : lawV std Try.prog (edgeCons std 1) (inCallF 60) 90 (fun _ => none) Try.f4 (bodyR Try.prog 4) [mk (.int .i64 a), mk (.int .i64 b)] H0 (fun v _ => v = .bool true) := by
  rw [edge1_vc]
  simp only [Int.zero_add]
  repeat' first
    | (refine And.intro ?_ ?_)
  all_goals first
    | rfl
    | omega
    | (refine decide_eq_true ?_; omega)
    | (refine decide_eq_false ?_; omega)
    | (refine beq_eq_false_iff_ne.2 ?_; omega)
    | (simp; done)
theorem edge2_run (a b : Int) (hb : b % 8 = 2) : lawV std Try.prog (edgeCons std 2) (inCallF 60) 90 (fun _ => none) Try.f4 (bodyR Try.prog 4) [mk (.int .i64 a), mk (.int .i64 b)] H0 (fun v _ => v = .bool true) := by
  rw [edge2_vc]
  simp only [Int.zero_add]
  repeat' first
    | (refine And.intro ?_ ?_)
  all_goals first
    | rfl
    | omega
    | (refine decide_eq_true ?_; omega)
    | (refine decide_eq_false ?_; omega)
    | (refine beq_eq_false_iff_ne.2 ?_; omega)
    | (simp; done)
theorem edge3_run (a b : Int) (hb : b % 8 = 3) : lawV std Try.prog (edgeCons std 3) (inCallF 60) 90 (fun _ => none) Try.f4 (bodyR Try.prog 4) [mk (.int .i64 a), mk (.int .i64 b)] H0 (fun v _ => v = .bool true) := by
  rw [edge3_vc]
  simp only [Int.zero_add]
  repeat' first
    | (refine And.intro ?_ ?_)
  all_goals first
    | rfl
    | omega
    | (refine decide_eq_true ?_; omega)
    | (refine decide_eq_false ?_; omega)
    | (refine beq_eq_false_iff_ne.2 ?_; omega)
    | (simp; done)
theorem edge4_run (a b : Int) (hb : b % 8 = 4) : lawV std Try.prog (edgeCons std 4) (inCallF 60) 90 (fun _ => none) Try.f4 (bodyR Try.prog 4) [mk (.int .i64 a), mk (.int .i64 b)] H0 (fun v _ => v = .bool true) := by
  rw [edge4_vc]
  simp only [Int.zero_add]
  repeat' first
    | (refine And.intro ?_ ?_)
  all_goals first
    | rfl
    | omega
    | (refine decide_eq_true ?_; omega)
    | (refine decide_eq_false ?_; omega)
    | (refine beq_eq_false_iff_ne.2 ?_; omega)
    | (simp; done)
theorem edge5_run (a b : Int) (hb : b % 8 = 5) : lawV std Try.prog (edgeCons std 5) (inCallF 60) 90 (fun _ => none) Try.f4 (bodyR Try.prog 4) [mk (.int .i64 a), mk (.int .i64 b)] H0 (fun v _ => v = .bool true) := by
  rw [edge5_vc]
  simp only [Int.zero_add]
  repeat' first
    | (refine And.intro ?_ ?_)
  all_goals first
    | rfl
    | omega
    | (refine decide_eq_true ?_; omega)
    | (refine decide_eq_false ?_; omega)
    | (refine beq_eq_false_iff_ne.2 ?_; omega)
    | (simp; done)
theorem edge6_run (a b : Int) (hb : b % 8 = 6) : lawV std Try.prog (edgeCons std 6) (inCallF 60) 90 (fun _ => none) Try.f4 (bodyR Try.prog 4) [mk (.int .i64 a), mk (.int .i64 b)] H0 (fun v _ => v = .bool true) := by
  rw [edge6_vc]
  simp only [Int.zero_add]
  repeat' first
    | (refine And.intro ?_ ?_)
  all_goals first
    | rfl
    | omega
    | (refine decide_eq_true ?_; omega)
    | (refine decide_eq_false ?_; omega)
    | (refine beq_eq_false_iff_ne.2 ?_; omega)
    | (simp; done)
theorem edge7_run (a b : Int) (hb : b % 8 = 7) : lawV std Try.prog (edgeCons std 7) (inCallF 60) 90 (fun _ => none) Try.f4 (bodyR Try.prog 4) [mk (.int .i64 a), mk (.int .i64 b)] H0 (fun v _ => v = .bool true) := by
  rw [edge7_vc]
  simp only [Int.zero_add]
  have hx : 0 ≤ a % 1001 ∧ a % 1001 ≤ 1000 := by omega
  have hm : 0 ≤ std.rem (a % 1001) 100 ∧ std.rem (a % 1001) 100 < 100 := ⟨Int.tmod_nonneg _ hx.1, Int.tmod_lt_of_pos _ (by omega)⟩
  generalize std.rem (a % 1001) 100 = m at hm
  have hq : std.quo ((1073741824 - m) * 100) 100 = 1073741824 - m := Int.mul_tdiv_cancel _ (by omega)
  simp only [hq]
  repeat' first
    | (refine And.intro ?_ ?_)
  all_goals first
    | rfl
    | omega
    | (refine decide_eq_true ?_; omega)
    | (refine decide_eq_false ?_; omega)
    | (refine beq_eq_false_iff_ne.2 ?_; omega)
    | (simp; done)
theorem edgeCons_ok (r : Nat) : ConOk Try.prog (edgeCons std r) := by
  refine draw_ok (tell_ok (conL_ok fun x hx => ?_) _) fun x hx => ?_
  · simp only [List.mem_cons, List.not_mem_nil, or_false] at hx
    rcases hx with rfl | rfl | rfl
    · exact withinT_ok r
    · exact rateRunsC_ok
    · exact sortedTC_ok
  · simp only [List.mem_cons, List.not_mem_nil, or_false] at hx
    subst hx
    exact poolD_ok
theorem rateEdges_body : Try.f4.body = some (bodyR Try.prog 4) := by kernel_rfl
theorem rateEdges_calls (a0 a1 : Int) (_ : -9223372036854775808 ≤ a0 ∧ a0 ≤ 9223372036854775807) (_ : -9223372036854775808 ≤ a1 ∧ a1 ≤ 9223372036854775807) (w : World) :
    Calls Try.prog 4 #[.int .i64 a0, .int .i64 a1] w fun e w' => Below w.heap.size w w' ∧ e = .returned (.bool true) := by
  have fin : ∀ r : Nat, lawV std Try.prog (edgeCons std r) (inCallF 60) 90 (fun _ => none) Try.f4 (bodyR Try.prog 4) [mk (.int .i64 a0), mk (.int .i64 a1)] H0 (fun v _ => v = .bool true) → Calls Try.prog 4 #[.int .i64 a0, .int .i64 a1] w fun e w' => Below w.heap.size w w' ∧ e = .returned (.bool true) := fun r hr =>
    law_callsF Try.progOk (edgeCons_ok r) (inCallF_ok 60) Try.func4 rateEdges_body (args := [mk (.int .i64 a0), mk (.int .i64 a1)]) (h0 := H0) (fun b x h => by unfold H0 Hp.get at h; simp at h) hr (μ := MuN) (All2.cons (.zero (.mark (.plain rfl) rfl)) (All2.cons (.zero (.mark (.plain rfl) rfl)) All2.nil)) (rel_none _ (Nat.le_refl _)) (fun _ _ => rfl)
  have h8 : a1 % 8 = 0 ∨ a1 % 8 = 1 ∨ a1 % 8 = 2 ∨ a1 % 8 = 3 ∨ a1 % 8 = 4 ∨ a1 % 8 = 5 ∨ a1 % 8 = 6 ∨ a1 % 8 = 7 := by omega
  rcases h8 with h | h | h | h | h | h | h | h
  · exact fin 0 (edge0_run a0 a1 h)
  · exact fin 1 (edge1_run a0 a1 h)
  · exact fin 2 (edge2_run a0 a1 h)
  · exact fin 3 (edge3_run a0 a1 h)
  · exact fin 4 (edge4_run a0 a1 h)
  · exact fin 5 (edge5_run a0 a1 h)
  · exact fin 6 (edge6_run a0 a1 h)
  · exact fin 7 (edge7_run a0 a1 h)
set_option maxRecDepth 100000 in
theorem rateEdges_lifted (os : Os) (started : os.Started) (H : Type) (enc : TypeId × Value → H) :
    ReturnsInHanded {} Try.checked os 4 .any (Rows.rateEdgesSpec.pre6 enc Try.prog Try.f4 Rows.rateEdgesRow.domain false) (Rows.rateEdgesSpec.post enc Try.prog Try.f4 false true false false) := by
  refine returnsInHanded_of_change (C := Try.checked) Try.own started (by kernel_rfl) Try.func4
    (ChangeSpec.witness6 (enc := enc) (C := Try.checked) false ⟨#[], #[.int .i64 0, .int .i64 0], []⟩ 8 (by kernel_rfl) (by kernel_rfl) (by kernel_rfl) (by kernel_rfl)) ?_
  intro W base args ds gs before hval0 hW hcnd _
  have hval : ∀ (j : Nat) t v, Try.f4.params[j]? = some t → args[j]? = some v → Value.okWide Try.prog W .any base t v := hval0
  have hW' := hW
  obtain ⟨p, q, hA0, hV, rfl, hfz, hnd⟩ := hW
  have hA : DataW.TrodAll enc Try.prog W 0 (fun _ => true) true Try.f4.params.toList args.toList ds p := hA0
  rw [Try.params4] at hA hval
  obtain ⟨v0, v1, d0, d1, p0, p1, rfl, rfl, rfl, h0, h1⟩ := trodAll_two hA
  obtain ⟨rfl, rfl⟩ := trodVars_none hV
  obtain ⟨a0, rfl, rfl, rfl, wa0⟩ := open_int Try.underlying3 (hval 0 3 v0 rfl rfl) h0
  obtain ⟨a1, rfl, rfl, rfl, wa1⟩ := open_int Try.underlying3 (hval 1 3 v1 rfl rfl) h1
  clear hA0 hval0
  simp only [List.append_nil] at hW'
  refine (rateEdges_calls a0 a1 (i64_range wa0) (i64_range wa1) W).mono fun e W' ⟨hb, he⟩ => ?_
  subst he
  exact ⟨_, rfl, post_below (pa := []) (pv := []) hW' (fun _ _ _ => trodAll_mk1 (shut_bool Try.underlying4 true)) (fun sp _ => trodAll_mk2 (shut_int Try.underlying3 wa0) (shut_int Try.underlying3 wa1)) (fun _ _ => rfl) rfl hb (ok_one (by kernel_rfl) rfl (okWide_bool_mk Try.underlying4 true))⟩

theorem rateEdges_holds : Rows.RateEdgesSaid :=
  OpenClaim.holds_of_wide 4 Try.f4 rfl rfl rfl rfl rfl rfl rfl ⟨rfl, rfl, rfl, rfl, rfl⟩ rfl rfl rfl rfl rfl (by kernel_rfl) Try.func4 (by kernel_rfl)
    (of_decide_eq_true (by kernel_rfl)) (by unfold Func.isWrapper; first | (rw [if_pos (by decide +kernel)]; kernel_rfl) | (rw [if_neg (by decide +kernel)]; exact ⟨rfl, rfl⟩))
    (fun os started H enc _ => rateEdges_lifted os started H enc)
end Go.Proofs.Ytddejgkfgnokgaa
