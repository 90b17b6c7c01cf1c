/-
  CacheStale: the program's law is true for all numbers, and what was there stays as it was. No conditions.
-/
import Derived.Test.YtalcembgjcekcaaStaleV
namespace Go.Proofs.Ytalcembgjcekcaa
open Go.ChangeShapes Go.WideShapes Go.ChangeAt Go.RowKit Go.Abs

theorem cacheRuns_run : (callN vbeq Try.prog X0 60 3 [] H0).map (·.1) = some (.bool true) := by
  rw [callF_eq]
  kernel_rfl
theorem cacheRuns_body : ∃ c, Try.f3.body = some c := ⟨_, rfl⟩
theorem staleCons_ok : ConOk Try.prog (staleCons std) := by
  obtain ⟨c, hc⟩ := cacheRuns_body
  refine conL_ok fun x hx => ?_
  simp only [List.mem_cons, List.not_mem_nil, or_false] at hx
  rcases hx with rfl | rfl
  · exact withinC_ok
  · exact closedC_ok (knownOk_none Try.prog) Try.func3 hc rfl cacheRuns_run

def staleI (d : D0) : Prop := (0 ≤ d.b ∧ d.b ≤ 50) ∧ (0 ≤ d.x ∧ d.x ≤ 100) ∧ (1 ≤ d.r ∧ d.r ≤ 70) ∧ (0 ≤ d.i ∧ d.i ≤ d.r) ∧ d.at' = d.x
def staleM (d : D0) : Nat := (d.r - d.i).toNat

set_option maxHeartbeats 4000000 in
theorem stale_run (b x n : Int) (hb : -9223372036854775808 ≤ b ∧ b ≤ 9223372036854775807) (hx : -9223372036854775808 ≤ x ∧ x ≤ 9223372036854775807) (hn : -9223372036854775808 ≤ n ∧ n ≤ 9223372036854775807) :
    runV std Try.prog (staleCons std) (inCall 60) 90 (staleLoops staleI staleM) 0 (bodyOf Try.prog 5) ⟨[mk (.int .i64 b), mk (.int .i64 x), mk (.int .i64 n)] ++ List.replicate (Try.f5.ntmps - 3) undef, H0⟩ (resK Try.prog Try.f5 fun v _ => v = .bool true) := by
  rw [stale_vc]
  refine ⟨hb, fun r7 h7 e7 => ⟨hx, fun r10 h10 e10 => ⟨fun hd => ⟨hn, fun r14 h14 e14 => ?_⟩, fun hd => ⟨hn, fun r14 h14 e14 => ⟨⟨r7, r10, r14, 0, r10⟩, rfl, ?_, fun d hI => ?_⟩⟩⟩⟩⟩
  · have := of_decide_eq_true hd; omega
  · exact ⟨h7, h10, h14, ⟨Int.le_refl 0, (by show (0 : Int) ≤ r14; omega)⟩, rfl⟩
  · obtain ⟨d1, d2, d3, d4, d5⟩ := hI
    clear hb hx hn e7 e10 h7 h10 h14 hd
    repeat' first
      | (refine And.intro ?_ ?_)
      | (refine Exists.intro (D0.mk d.b d.x d.r (d.i + 1) d.at') ?_)
      | (intro h; simp only [decide_eq_true_eq, decide_eq_false_iff_not] at h)
    all_goals first
      | omega
      | rfl
      | (exfalso; omega)
      | (show (d.r - (d.i + 1)).toNat < (d.r - d.i).toNat; omega)
      | (exact ⟨d1, d2, d3, ⟨by show 0 ≤ d.i + 1; omega, by show d.i + 1 ≤ d.r; omega⟩, d5⟩)
      | (dsimp only; omega)

theorem cacheStale_body : Try.f5.body = some (bodyOf Try.prog 5) := by kernel_rfl
theorem cacheStale_calls (a0 a1 a2 : Int) (h0 : -9223372036854775808 ≤ a0 ∧ a0 ≤ 9223372036854775807) (h1 : -9223372036854775808 ≤ a1 ∧ a1 ≤ 9223372036854775807) (h2 : -9223372036854775808 ≤ a2 ∧ a2 ≤ 9223372036854775807) (w : World) :
    Calls Try.prog 5 #[.int .i64 a0, .int .i64 a1, .int .i64 a2] w fun e w' => Below w.heap.size w w' ∧ e = .returned (.bool true) :=
  law_calls Try.progOk staleCons_ok (inCall_ok 60) Try.func5 cacheStale_body (args := [mk (.int .i64 a0), mk (.int .i64 a1), mk (.int .i64 a2)]) (h0 := H0) (fun b x h => by unfold H0 Hp.get at h; simp at h) (stale_run a0 a1 a2 h0 h1 h2)
    (μ := MuN) (All2.cons (.zero (.mark (.plain rfl) rfl)) (All2.cons (.zero (.mark (.plain rfl) rfl)) (All2.cons (.zero (.mark (.plain rfl) rfl)) All2.nil))) (rel_none _ (Nat.le_refl _)) (fun _ _ => rfl)

set_option maxRecDepth 100000 in
theorem cacheStale_lifted (os : Os) (started : os.Started) (H : Type) (enc : TypeId × Value → H) :
    ReturnsInHanded {} Try.checked os 5 .any (Rows.cacheStaleSpec.pre6 enc Try.prog Try.f5 Rows.cacheStaleRow.domain false) (Rows.cacheStaleSpec.post enc Try.prog Try.f5 false true false false) := by
  refine returnsInHanded_of_change (C := Try.checked) Try.own started (by kernel_rfl) Try.func5
    (ChangeSpec.witness6 (enc := enc) (C := Try.checked) false ⟨#[], #[.int .i64 0, .int .i64 0, .int .i64 0], []⟩ 8 (by kernel_rfl) (by kernel_rfl) (by kernel_rfl) (by kernel_rfl)) ?_
  intro W base args ds gs before hval0 hW hcnd _
  have hval : ∀ (j : Nat) t v, Try.f5.params[j]? = some t → args[j]? = some v → Value.okWide Try.prog W .any base t v := hval0
  have hW' := hW
  obtain ⟨p, q, hA0, hV, rfl, hfz, hnd⟩ := hW
  have hA : DataW.TrodAll enc Try.prog W 0 (fun _ => true) true Try.f5.params.toList args.toList ds p := hA0
  rw [Try.params5] at hA hval
  obtain ⟨v0, v1, v2, d0, d1, d2, p0, p1, p2, rfl, rfl, rfl, h0, h1, h2⟩ := trodAll_three hA
  obtain ⟨rfl, rfl⟩ := trodVars_none hV
  obtain ⟨a0, rfl, rfl, rfl, wa0⟩ := open_int Try.underlying3 (hval 0 3 v0 rfl rfl) h0
  obtain ⟨a1, rfl, rfl, rfl, wa1⟩ := open_int Try.underlying3 (hval 1 3 v1 rfl rfl) h1
  obtain ⟨a2, rfl, rfl, rfl, wa2⟩ := open_int Try.underlying3 (hval 2 3 v2 rfl rfl) h2
  clear hA0 hval0
  simp only [List.append_nil] at hW'
  refine (cacheStale_calls a0 a1 a2 (i64_range wa0) (i64_range wa1) (i64_range wa2) W).mono fun e W' ⟨hb, he⟩ => ?_
  subst he
  exact ⟨_, rfl, post_below (pa := []) (pv := []) hW' (fun _ _ _ => trodAll_mk1 (shut_bool Try.underlying4 true)) (fun sp _ => trodAll_mk3 (shut_int Try.underlying3 wa0) (shut_int Try.underlying3 wa1) (shut_int Try.underlying3 wa2)) (fun _ _ => rfl) rfl hb (ok_one (by kernel_rfl) rfl (okWide_bool_mk Try.underlying4 true))⟩

theorem cacheStale_holds : Rows.CacheStaleSaid :=
  OpenClaim.holds_of_wide 5 Try.f5 rfl rfl rfl rfl rfl rfl rfl ⟨rfl, rfl, rfl, rfl, rfl⟩ rfl rfl rfl rfl rfl (by kernel_rfl) Try.func5 (by kernel_rfl)
    (of_decide_eq_true (by kernel_rfl)) (by unfold Func.isWrapper; first | (rw [if_pos (by decide +kernel)]; kernel_rfl) | (rw [if_neg (by decide +kernel)]; exact ⟨rfl, rfl⟩))
    (fun os started H enc _ => cacheStale_lifted os started H enc)
end Go.Proofs.Ytalcembgjcekcaa
