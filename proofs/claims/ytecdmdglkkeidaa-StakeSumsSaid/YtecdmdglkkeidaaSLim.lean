/-
  StakeLimits: the program's law is true for all numbers and texts, and what was there stays as it was. No conditions.
-/
import Derived.Test.YtecdmdglkkeidaaSLimV
import Derived.Test.YtecdmdglkkeidaaAbs50
import Derived.ChangeMaps5
namespace Go.Proofs.Ytecdmdglkkeidaa
open Go.ChangeShapes Go.WideShapes Go.ChangeAt Go.RowKit Go.Abs Go.ChangeMaps

theorem stakeRuns_run : (callN vbeq Try.prog X0 60 3 [] H0).map (·.1) = some (.bool true) := by
  rw [callF_eq]
  kernel_rfl
theorem stakeRuns_body : ∃ c, Try.f3.body = some c := ⟨_, rfl⟩
theorem readX_ok : ∀ args h K, readX std recOf args h K → CallSem Try.prog 20 args h K := by
  intro args h K e
  unfold readX at e
  split at e
  case h_2 => exact e.elim
  split at e
  · exact readC_ok _ _ _ e
  · exact text_sem Try.progOk (noCon_ok _) (inCallF_ok 60) Try.func20 read_body e
theorem limCons_ok : ConOk Try.prog (limCons std recOf) := by
  obtain ⟨c, hc⟩ := stakeRuns_body
  refine tellG_ok (conL_ok fun x hx => ?_) _
  simp only [List.mem_cons, List.not_mem_nil, or_false] at hx
  rcases hx with rfl | rfl | rfl | rfl | rfl
  · exact withinC_ok
  · exact recC_ok
  · exact readX_ok
  · exact mayC_ok
  · exact closedC_ok (knownOk_none Try.prog) Try.func3 hc rfl stakeRuns_run
theorem quo05 : std.quo 0 5 = 0 := rfl
theorem seq_none (s : ByteArray) : std.seq s (ByteArray.mk (Array.mk [])) = decide (std.slen s = 0) := seq_empty s
theorem slen_begin (s : ByteArray) : std.slen ((ByteArray.mk (Array.mk [(115 : UInt8), (47 : UInt8)])) ++ s) = 2 + std.slen s := slen_sapp (ByteArray.mk (Array.mk [(115 : UInt8), (47 : UInt8)])) s
theorem slen_two : std.slen (ByteArray.mk (Array.mk [(115 : UInt8), (47 : UInt8)])) = 2 := rfl
theorem slen_sa : std.slen (ByteArray.mk (Array.mk [(115 : UInt8), (47 : UInt8), (97 : UInt8)])) = 3 := rfl
theorem slen_sb : std.slen (ByteArray.mk (Array.mk [(115 : UInt8), (47 : UInt8), (98 : UInt8)])) = 3 := rfl
theorem seq_key (s : ByteArray) : std.seq (std.ssub ((ByteArray.mk (Array.mk [(115 : UInt8), (47 : UInt8)])) ++ s) 0 (Int.toNat (2 : Int))) (ByteArray.mk (Array.mk [(115 : UInt8), (47 : UInt8)])) = true :=
  seq_begin (ByteArray.mk (Array.mk [(115 : UInt8), (47 : UInt8)])) s 2 rfl
theorem imin_name (L : Nat) : 0 ≤ std.imin (L : Int) 20 ∧ std.imin (L : Int) 20 ≤ (L : Int) ∧ std.imin (L : Int) 20 ≤ 20 := by
  show 0 ≤ (if (20 : Int) < (L : Int) then 20 else (L : Int)) ∧ (if (20 : Int) < (L : Int) then 20 else (L : Int)) ≤ (L : Int) ∧ (if (20 : Int) < (L : Int) then 20 else (L : Int)) ≤ 20
  split <;> omega
set_option maxHeartbeats 8000000 in
theorem slim_run (a b : Int) (name : ByteArray) (ha : -9223372036854775808 ≤ a ∧ a ≤ 9223372036854775807) (hb : -9223372036854775808 ≤ b ∧ b ≤ 9223372036854775807) :
    lawV std Try.prog (limCons std recOf) (inCallF 60) 90 (fun _ => none) Try.f8 (bodyS Try.prog 8) [mk (.int .i64 a), mk (.int .i64 b), mk (.string name)] H0 (fun v _ => v = .bool true) := by
  rw [slim_vc]
  refine ⟨ha, fun x hx _ => ?_⟩
  have him := imin_name (std.slen name)
  have hsl := slen_ssub name (Int.toNat (std.imin (std.slen name : Int) 20))
  have hs20 : std.slen (std.ssub name 0 (Int.toNat (std.imin (std.slen name : Int) 20))) ≤ 20 := by omega
  clear hsl
  generalize std.ssub name 0 (Int.toNat (std.imin (std.slen name : Int) 20)) = s at hs20 ⊢
  simp only [Int.zero_add, Int.mul_zero, quo05, seq_self, seq_none, slen_begin, slen_two, slen_sa, slen_sb, seq_key, Bool.and_self, Bool.not_true]
  repeat' first
    | exact hb
    | (refine And.intro ?_ ?_)
    | (intro (y : Int) (hy : 0 ≤ y ∧ y ≤ 1073741824) _)
    | (refine ⟨_, _, ⟨?_, rfl⟩, ?_⟩)
    | (intro q; cases q; done)
    | (intro q; simp only [decide_eq_true_eq] at q; exfalso; omega)
    | (intro q; simp only [decide_eq_false_iff_not] at q; exfalso; omega)
    | (intro q; simp only [decide_eq_true_eq] at q)
    | (intro q; simp only [decide_eq_false_iff_not] at q)
    | (intro q; simp only [beq_iff_eq] at q)
    | (intro q; simp only [beq_eq_false_iff_ne, ne_eq] at q)
    | (intro q)
  all_goals first
    | exact trivial
    | rfl
    | omega
    | (refine decide_eq_true ?_; omega)
    | (refine decide_eq_false ?_; omega)
    | exact Nat.le_trans (rec_short _ _) (by omega)
    | exact Nat.le_of_ble_eq_true rfl
    | (exfalso; omega)
    | exact absurd trivial ‹¬True›
    | (rw [decide_eq_false (show ¬ 2 + std.slen s = 0 by omega)]; rfl)
theorem stakeLimits_body : Try.f8.body = some (bodyS Try.prog 8) := by kernel_rfl
set_option maxRecDepth 100000 in
theorem stakeLimits_calls (a0 a1 : Int) (a2 : ByteArray) (h0 : -9223372036854775808 ≤ a0 ∧ a0 ≤ 9223372036854775807) (h1 : -9223372036854775808 ≤ a1 ∧ a1 ≤ 9223372036854775807) (_ : a2.size ≤ maxLen) (w : World) :
    Calls Try.prog 8 #[.int .i64 a0, .int .i64 a1, .string a2] w fun e w' => Below w.heap.size w w' ∧ e = .returned (.bool true) :=
  law_callsF Try.progOk limCons_ok (inCallF_ok 60) Try.func8 stakeLimits_body (args := [mk (.int .i64 a0), mk (.int .i64 a1), mk (.string a2)]) (h0 := H0) (fun b x h => by unfold H0 Hp.get at h; simp at h) (slim_run a0 a1 a2 h0 h1) (μ := MuN)
    (All2.cons (.zero (.mark (.plain rfl) rfl)) (All2.cons (.zero (.mark (.plain rfl) rfl)) (All2.cons (.zero (.mark (.plain rfl) rfl)) All2.nil))) (rel_none _ (Nat.le_refl _)) (fun _ _ => rfl)
set_option maxRecDepth 100000 in
theorem stakeLimits_lifted (os : Os) (started : os.Started) (H : Type) (enc : TypeId × Value → H) :
    ReturnsInHanded {} Try.checked os 8 .any (Rows.stakeLimitsSpec.pre6 enc Try.prog Try.f8 Rows.stakeLimitsRow.domain false) (Rows.stakeLimitsSpec.post enc Try.prog Try.f8 false true false false) := by
  refine returnsInHanded_of_change (C := Try.checked) Try.own started (by kernel_rfl) Try.func8
    (ChangeSpec.witness6 (enc := enc) (C := Try.checked) false ⟨#[], #[.int .i64 0, .int .i64 0, .string ⟨#[]⟩], []⟩ 8 (by kernel_rfl) (by kernel_rfl) (by kernel_rfl) (by kernel_rfl)) ?_
  intro W base args ds gs before hval0 hW hcnd _
  have hval : ∀ (j : Nat) t v, Try.f8.params[j]? = some t → args[j]? = some v → Value.okWide Try.prog W .any base t v := hval0
  have hW' := hW
  obtain ⟨p, q, hA0, hV, rfl, hfz, hnd⟩ := hW
  have hA : DataW.TrodAll enc Try.prog W 0 (fun _ => true) true Try.f8.params.toList args.toList ds p := hA0
  rw [Try.params8] at hA hval
  obtain ⟨v0, v1, v2, d0, d1, d2, p0, p1, p2, rfl, rfl, rfl, h0, h1, h2⟩ := trodAll_three hA
  obtain ⟨rfl, rfl⟩ := trodVars_none hV
  obtain ⟨a0, rfl, rfl, rfl, wa0⟩ := open_int Try.underlying3 (hval 0 3 v0 rfl rfl) h0
  obtain ⟨a1, rfl, rfl, rfl, wa1⟩ := open_int Try.underlying3 (hval 1 3 v1 rfl rfl) h1
  obtain ⟨a2, rfl, rfl, rfl, wa2⟩ := open_string Try.underlying9 (hval 2 9 v2 rfl rfl) h2
  clear hA0 hval0
  simp only [List.append_nil] at hW'
  refine (stakeLimits_calls a0 a1 a2 (i64_range wa0) (i64_range wa1) wa2 W).mono fun e W' ⟨hb, he⟩ => ?_
  subst he
  exact ⟨_, rfl, post_below (pa := []) (pv := []) hW' (fun _ _ _ => trodAll_mk1 (shut_bool Try.underlying4 true)) (fun sp _ => trodAll_mk3 (shut_int Try.underlying3 wa0) (shut_int Try.underlying3 wa1) (shut_string Try.underlying9 wa2)) (fun _ _ => rfl) rfl hb (ok_one (by kernel_rfl) rfl (okWide_bool_mk Try.underlying4 true))⟩

theorem stakeLimits_holds : Rows.StakeLimitsSaid :=
  OpenClaim.holds_of_wide 8 Try.f8 rfl rfl rfl rfl rfl rfl rfl ⟨rfl, rfl, rfl, rfl, rfl⟩ rfl rfl rfl rfl rfl (by kernel_rfl) Try.func8 (by kernel_rfl)
    (of_decide_eq_true (by kernel_rfl)) (by unfold Func.isWrapper; first | (rw [if_pos (by decide +kernel)]; kernel_rfl) | (rw [if_neg (by decide +kernel)]; exact ⟨rfl, rfl⟩))
    (fun os started H enc _ => stakeLimits_lifted os started H enc)
end Go.Proofs.Ytecdmdglkkeidaa
