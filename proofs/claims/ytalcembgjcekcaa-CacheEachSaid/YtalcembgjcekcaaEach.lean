/-
  CacheEach: the program's law is true for all numbers, and what was there stays as it was. No conditions.
-/
import Derived.Test.YtalcembgjcekcaaEachP1
import Derived.Test.YtalcembgjcekcaaEachP2
import Derived.Test.YtalcembgjcekcaaEachP3
import Derived.Test.YtalcembgjcekcaaEachP4
import Derived.Test.YtalcembgjcekcaaEachP5
import Derived.Test.YtalcembgjcekcaaEachP6
namespace Go.Proofs.Ytalcembgjcekcaa
open Go.ChangeShapes Go.WideShapes Go.ChangeAt Go.RowKit Go.Abs

theorem eachRuns_run : (callN vbeq Try.prog X0 60 3 [] H0).map (·.1) = some (.bool true) := by
  rw [callF_eq]
  kernel_rfl
theorem eachRuns_body : ∃ c, Try.f3.body = some c := ⟨_, rfl⟩
theorem eachCons_ok (dv nv : Int) : ConOk Try.prog (eachCons std dv nv) := by
  obtain ⟨c, hc⟩ := eachRuns_body
  refine conL_ok fun x hx => ?_
  simp only [List.mem_cons, List.not_mem_nil, or_false] at hx
  rcases hx with rfl | rfl
  · exact withinH_ok _ _ _
  · exact closedC_ok (knownOk_none Try.prog) Try.func3 hc rfl eachRuns_run

theorem each_all {dv nv : Int} (h1 : dv = 1 ∨ dv = 2 ∨ dv = 3 ∨ dv = 4 ∨ dv = 5 ∨ dv = 6) (h2 : nv = 1 ∨ nv = 2 ∨ nv = 3 ∨ nv = 4 ∨ nv = 5 ∨ nv = 6) : EachP dv nv := by
  rcases h1 with rfl | rfl | rfl | rfl | rfl | rfl
  · rcases h2 with rfl | rfl | rfl | rfl | rfl | rfl
    · exact each_1_1
    · exact each_1_2
    · exact each_1_3
    · exact each_1_4
    · exact each_1_5
    · exact each_1_6
  · rcases h2 with rfl | rfl | rfl | rfl | rfl | rfl
    · exact each_2_1
    · exact each_2_2
    · exact each_2_3
    · exact each_2_4
    · exact each_2_5
    · exact each_2_6
  · rcases h2 with rfl | rfl | rfl | rfl | rfl | rfl
    · exact each_3_1
    · exact each_3_2
    · exact each_3_3
    · exact each_3_4
    · exact each_3_5
    · exact each_3_6
  · rcases h2 with rfl | rfl | rfl | rfl | rfl | rfl
    · exact each_4_1
    · exact each_4_2
    · exact each_4_3
    · exact each_4_4
    · exact each_4_5
    · exact each_4_6
  · rcases h2 with rfl | rfl | rfl | rfl | rfl | rfl
    · exact each_5_1
    · exact each_5_2
    · exact each_5_3
    · exact each_5_4
    · exact each_5_5
    · exact each_5_6
  · rcases h2 with rfl | rfl | rfl | rfl | rfl | rfl
    · exact each_6_1
    · exact each_6_2
    · exact each_6_3
    · exact each_6_4
    · exact each_6_5
    · exact each_6_6

theorem eachEq_of {r : Int} {X : Prop} (h : X) : ∀ n, eachEq r n X
  | 0 => h
  | n + 1 => ⟨fun e => by simp at e, fun _ => eachEq_of h n⟩
theorem eachPut_of {r : Int} (hr : 1 ≤ r) {X : Prop} (h : X) : ∀ n, eachPut r n X
  | 0 => h
  | n + 1 => ⟨fun e => by have := of_decide_eq_true e; omega, fun _ => eachPut_of hr h n⟩
theorem eachC_of {r : Int} (hr : 1 ≤ r) {X Y : Prop} (h : Y) : eachC r X Y :=
  ⟨fun e => by have := of_decide_eq_true e; omega, fun _ => h⟩

theorem each_run (n drop h : Int) (hn : -9223372036854775808 ≤ n ∧ n ≤ 9223372036854775807) (hd : -9223372036854775808 ≤ drop ∧ drop ≤ 9223372036854775807) (hh : -9223372036854775808 ≤ h ∧ h ≤ 9223372036854775807) :
    lawV std Try.prog (eachCons std (1 + drop % 6) (1 + n % 6)) (inCallF 60) 90 eachL Try.f6 (bodyE Try.prog 6) [mk (.int .i64 n), mk (.int .i64 drop), mk (.int .i64 h)] H0 (fun v _ => v = .bool true) := by
  rw [each_all (dv := 1 + drop % 6) (nv := 1 + n % 6) (by omega) (by omega) n drop h]
  refine ⟨hh, fun r hr _ => eachPut_of hr.1 ⟨hd, rfl, eachC_of hr.1 (eachC_of hr.1 ⟨hn, rfl, eachEq_of ?_ 5⟩)⟩ 6⟩
  exact ⟨fun _ => rfl, fun e => by simp at e⟩

theorem cacheEach_body : Try.f6.body = some (bodyE Try.prog 6) := by kernel_rfl
theorem cacheEach_calls (a0 a1 a2 : Int) (h0 : -9223372036854775808 ≤ a0 ∧ a0 ≤ 9223372036854775807) (h1 : -9223372036854775808 ≤ a1 ∧ a1 ≤ 9223372036854775807) (h2 : -9223372036854775808 ≤ a2 ∧ a2 ≤ 9223372036854775807) (w : World) :
    Calls Try.prog 6 #[.int .i64 a0, .int .i64 a1, .int .i64 a2] w fun e w' => Below w.heap.size w w' ∧ e = .returned (.bool true) :=
  law_callsF Try.progOk (eachCons_ok _ _) (inCallF_ok 60) Try.func6 cacheEach_body (args := [mk (.int .i64 a0), mk (.int .i64 a1), mk (.int .i64 a2)]) (h0 := H0) (fun b x h => by unfold H0 Hp.get at h; simp at h) (each_run a0 a1 a2 h0 h1 h2)
    (μ := MuN) (All2.cons (.zero (.mark (.plain rfl) rfl)) (All2.cons (.zero (.mark (.plain rfl) rfl)) (All2.cons (.zero (.mark (.plain rfl) rfl)) All2.nil))) (rel_none _ (Nat.le_refl _)) (fun _ _ => rfl)

set_option maxRecDepth 100000 in
theorem cacheEach_lifted (os : Os) (started : os.Started) (H : Type) (enc : TypeId × Value → H) :
    ReturnsInHanded {} Try.checked os 6 .any (Rows.cacheEachSpec.pre6 enc Try.prog Try.f6 Rows.cacheEachRow.domain false) (Rows.cacheEachSpec.post enc Try.prog Try.f6 false true false false) := by
  refine returnsInHanded_of_change (C := Try.checked) Try.own started (by kernel_rfl) Try.func6
    (ChangeSpec.witness6 (enc := enc) (C := Try.checked) false ⟨#[], #[.int .i64 0, .int .i64 0, .int .i64 0], []⟩ 8 (by kernel_rfl) (by kernel_rfl) (by kernel_rfl) (by kernel_rfl)) ?_
  intro W base args ds gs before hval0 hW hcnd _
  have hval : ∀ (j : Nat) t v, Try.f6.params[j]? = some t → args[j]? = some v → Value.okWide Try.prog W .any base t v := hval0
  have hW' := hW
  obtain ⟨p, q, hA0, hV, rfl, hfz, hnd⟩ := hW
  have hA : DataW.TrodAll enc Try.prog W 0 (fun _ => true) true Try.f6.params.toList args.toList ds p := hA0
  rw [Try.params6] at hA hval
  obtain ⟨v0, v1, v2, d0, d1, d2, p0, p1, p2, rfl, rfl, rfl, h0, h1, h2⟩ := trodAll_three hA
  obtain ⟨rfl, rfl⟩ := trodVars_none hV
  obtain ⟨a0, rfl, rfl, rfl, wa0⟩ := open_int Try.underlying3 (hval 0 3 v0 rfl rfl) h0
  obtain ⟨a1, rfl, rfl, rfl, wa1⟩ := open_int Try.underlying3 (hval 1 3 v1 rfl rfl) h1
  obtain ⟨a2, rfl, rfl, rfl, wa2⟩ := open_int Try.underlying3 (hval 2 3 v2 rfl rfl) h2
  clear hA0 hval0
  simp only [List.append_nil] at hW'
  refine (cacheEach_calls a0 a1 a2 (i64_range wa0) (i64_range wa1) (i64_range wa2) W).mono fun e W' ⟨hb, he⟩ => ?_
  subst he
  exact ⟨_, rfl, post_below (pa := []) (pv := []) hW' (fun _ _ _ => trodAll_mk1 (shut_bool Try.underlying4 true)) (fun sp _ => trodAll_mk3 (shut_int Try.underlying3 wa0) (shut_int Try.underlying3 wa1) (shut_int Try.underlying3 wa2)) (fun _ _ => rfl) rfl hb (ok_one (by kernel_rfl) rfl (okWide_bool_mk Try.underlying4 true))⟩

theorem cacheEach_holds : Rows.CacheEachSaid :=
  OpenClaim.holds_of_wide 6 Try.f6 rfl rfl rfl rfl rfl rfl rfl ⟨rfl, rfl, rfl, rfl, rfl⟩ rfl rfl rfl rfl rfl (by kernel_rfl) Try.func6 (by kernel_rfl)
    (of_decide_eq_true (by kernel_rfl)) (by unfold Func.isWrapper; first | (rw [if_pos (by decide +kernel)]; kernel_rfl) | (rw [if_neg (by decide +kernel)]; exact ⟨rfl, rfl⟩))
    (fun os started H enc _ => cacheEach_lifted os started H enc)
end Go.Proofs.Ytalcembgjcekcaa
