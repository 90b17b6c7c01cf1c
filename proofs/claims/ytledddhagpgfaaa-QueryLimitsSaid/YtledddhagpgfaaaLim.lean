/-
  QueryLimits: the program's law is true for all numbers, and what was there stays as it was. No conditions.
-/
import Derived.Test.YtledddhagpgfaaaLimV
import Derived.Test.YtledddhagpgfaaaAbs44
import Derived.Test.YtledddhagpgfaaaQRuns
namespace Go.Proofs.Ytledddhagpgfaaa
open Go.ChangeShapes Go.WideShapes Go.ChangeAt Go.RowKit Go.Abs

theorem key_body : Try.f32.body = some (bodyLim Try.prog 32) := by kernel_rfl

theorem limRuns_ok : ∀ args h K, closedC (.bool true) args h K → CallSem Try.prog 3 args h K := by
  intro args h K e μ base w args' hl hrel hfree
  unfold closedC at e
  split at e
  case h_2 => exact e.elim
  have : args' = #[] := Array.toList_eq_nil_iff.1 hl.inv_nil
  subst this
  have hn := Try.progOk.name Try.func3
  have hb := queryRuns_body
  refine .inr ⟨by simp [callFunc, Try.func3, hn, hb], ?_⟩
  refine (queryRuns_calls w).mono ?_
  rintro en w' ⟨h1, rfl⟩
  exact ⟨.bool true, rfl, .bool true, h, μ, e, cout_below hrel hfree h1 (.plain1 rfl)⟩
def keysL : List ByteArray := [⟨#[97]⟩, ⟨#[97, 98]⟩, ⟨#[97, 98, 99]⟩, ⟨#[98]⟩, ⟨#[98, 97]⟩, ⟨#[115, 47, 97]⟩, ⟨#[115, 47, 98]⟩, ⟨#[115, 47, 99]⟩, ⟨#[116]⟩, ⟨#[117]⟩, ⟨#[122]⟩, ⟨#[122, 122]⟩]
def keyOf (n : Int) : ByteArray := keysL.getD (n % 12).toNat ⟨#[97]⟩
theorem keyOf_mem (n : Int) : keyOf n ∈ keysL := by
  unfold keyOf
  have h1 : (n % 12).toNat < keysL.length := by show (n % 12).toNat < 12; omega
  rw [List.getD_eq_getElem?_getD, List.getElem?_eq_getElem h1]
  exact List.getElem_mem h1
theorem keys_facts : (keysL.all fun s => !(std.seq s ⟨#[]⟩) && decide (std.slen s ≤ 16) && keysL.all fun t => !(std.slt s t) || !(std.slt t s)) = true := by kernel_rfl
theorem key_ne (n : Int) : std.seq (keyOf n) ⟨#[]⟩ = false := by
  have h := List.all_eq_true.1 keys_facts _ (keyOf_mem n)
  simp only [Bool.and_eq_true, Bool.not_eq_true', decide_eq_true_eq] at h
  exact h.1.1
theorem key_len (n : Int) : std.slen (keyOf n) ≤ 16 := by
  have h := List.all_eq_true.1 keys_facts _ (keyOf_mem n)
  simp only [Bool.and_eq_true, Bool.not_eq_true', decide_eq_true_eq] at h
  exact h.1.2
theorem key_lt (a b : Int) (hl : std.slt (keyOf a) (keyOf b) = true) : std.slt (keyOf b) (keyOf a) = false := by
  have h := List.all_eq_true.1 keys_facts _ (keyOf_mem a)
  simp only [Bool.and_eq_true] at h
  have h2 := List.all_eq_true.1 h.2 _ (keyOf_mem b)
  rw [hl] at h2
  simpa using h2
theorem key_str (n : Int) (r : Nat) (h : (r : Int) = 0 + n % 12) : keyOf n = keysL.getD r ⟨#[97]⟩ := by
  unfold keyOf
  rw [show (n % 12).toNat = r by omega]
theorem key_run (n : Int) : lawV std Try.prog (keyCons std) (inCallF 60) 90 (fun _ => none) Try.f32 (bodyLim Try.prog 32) [mk (.int .i64 n)] H0 (fun v _ => den v = .string (keyOf n)) := by
  rw [key_vc]
  exact ⟨fun h => by rw [key_str n 0 h]; kernel_rfl, fun h => by rw [key_str n 1 h]; kernel_rfl, fun h => by rw [key_str n 2 h]; kernel_rfl, fun h => by rw [key_str n 3 h]; kernel_rfl, fun h => by rw [key_str n 4 h]; kernel_rfl, fun h => by rw [key_str n 5 h]; kernel_rfl, fun h => by rw [key_str n 6 h]; kernel_rfl, fun h => by rw [key_str n 7 h]; kernel_rfl, fun h => by rw [key_str n 8 h]; kernel_rfl, fun h => by rw [key_str n 9 h]; kernel_rfl, fun h => by rw [key_str n 10 h]; kernel_rfl, fun h => by rw [key_str n 11 h]; kernel_rfl, trivial⟩
theorem keyCons_ok : ConOk Try.prog (keyCons std) := by
  refine conL_ok fun x hx => ?_
  simp only [List.mem_cons, List.not_mem_nil, or_false] at hx
  subst hx
  exact withinU_ok
set_option maxRecDepth 100000 in
theorem keyF_ok : LFunOk Try.prog 32 (keyF keyOf) := by
  intro args v e μ w args' hl
  unfold keyF at e
  split at e
  case h_2 => cases e
  rename_i a
  split at e
  case h_2 => cases e
  rename_i n hd
  simp only [Option.some.injEq] at e; subst e
  obtain ⟨v1, l1, e1, r1, hl⟩ := hl.inv_cons
  have e4 := hl.inv_nil
  have r1 := r1.den
  rw [hd] at r1
  rw [r1.inv_int] at e1
  subst e4
  have : args' = #[.int .i64 n] := Array.toList_inj.1 e1
  subst this
  refine ⟨.string (keyOf n), fun μ' => .zero (.mark (.plain rfl) rfl), enters_name Try.func32 key_body _ w, ?_⟩
  exact law_val Try.progOk keyCons_ok (inCallF_ok 60) Try.func32 key_body (u := .string (keyOf n)) rfl (args := [mk (.int .i64 n)]) (h0 := H0) (fun b x h => by unfold H0 Hp.get at h; simp at h) (key_run n) (μ := MuN) (All2.cons (.zero (.mark (.plain rfl) rfl)) All2.nil) (rel_none _ (Nat.le_refl _)) (fun _ _ => rfl)

theorem withinT_ok (r : Int) : ∀ args h K, withinT std r args h K → CallSem Try.prog 17 args h K := by
  intro args h K e
  unfold withinT at e
  split at e
  case h_2 => exact e.elim
  rename_i a lo hi
  split at e
  case h_2 => exact e.elim
  rename_i n hd
  split at e
  case isFalse => exact e.elim
  rename_i hc
  have fin : ∀ {v : Value}, (∀ μ', VR μ' v (.int .i64 (lo + n % (hi - lo + 1)))) → K v h → CallSem Try.prog 17 [a, .int .i64 lo, .int .i64 hi] h K := by
    intro v hv hk μ base w args' hl hrel hfree
    obtain ⟨c, hb⟩ : ∃ c, Try.f17.body = some c := ⟨_, rfl⟩
    have := withinF_args hd hl
    subst this
    refine .inr ⟨enters_name Try.func17 hb _ w, (within_any n lo hi w hc.1 hc.2.1 hc.2.2).mono ?_⟩
    rintro en w' ⟨rfl, rfl⟩
    exact ⟨_, rfl, _, h, μ, hk, cout_below hrel hfree (Below.refl _ _) (hv μ)⟩
  split at e
  · obtain ⟨he, hk⟩ := e
    have he : r = lo + n % (hi - lo + 1) := he
    have := @fin (.int .i64 r) (fun μ' => by rw [he]; exact .plain1 rfl) hk
    exact @this
  · have := @fin (mk (.int .i64 (lo + n % (hi - lo + 1)))) (fun μ' => .zero (.mark (.plain rfl) rfl)) e
    exact @this
theorem limCons_ok (r : Nat) : ConOk Try.prog (limCons std keyOf r) := by
  refine tell_ok (conL_ok fun x hx => ?_) _
  simp only [List.mem_cons, List.not_mem_nil, or_false] at hx
  rcases hx with rfl | rfl | rfl
  · exact withinT_ok r
  · exact lfunC_ok keyF_ok
  · exact limRuns_ok
theorem limCall_ok : CallOk Try.prog (limCall std keyOf) := by
  refine inCallL_ok (fun x hx => ?_) 60
  simp only [List.mem_cons, List.not_mem_nil, or_false] at hx
  rcases hx with rfl | rfl
  · exact withinF_ok
  · exact keyF_ok

section
variable (a b c d e what n : Int)
set_option maxHeartbeats 4000000 in
theorem lim0_run (hw : what % 8 = 0) : lawV std Try.prog (limCons std keyOf 0) (limCall std keyOf) 90 (fun _ => none) Try.f4 (bodyLim Try.prog 4) [limQ a b c d e, mk (.int .i64 what), mk (.int .i64 n)] H0 (fun v _ => v = .bool true) := by
  rw [lim0_vc]
  have k1 := key_len b
  have k2 := key_len c
  have k3 := key_ne b
  have k4 := key_ne c
  have k5 := key_lt b c
  have k6 := key_lt c b
  repeat' first
    | (refine And.intro ?_ ?_)
    | (intro h; simp only [decide_eq_true_eq] at h)
    | (intro h; simp only [decide_eq_false_iff_not] at h)
    | (intro h)
  all_goals first
    | rfl
    | assumption
    | (simp only [decide_eq_true_eq]; omega)
    | (simp only [decide_eq_false_iff_not]; omega)
    | (refine beq_eq_false_iff_ne.2 ?_; omega)
    | omega
    | (exfalso; omega)
    | (simp_all; done)
    | skip

set_option maxHeartbeats 4000000 in
theorem lim1_run (hw : what % 8 = 1) : lawV std Try.prog (limCons std keyOf 1) (limCall std keyOf) 90 (fun _ => none) Try.f4 (bodyLim Try.prog 4) [limQ a b c d e, mk (.int .i64 what), mk (.int .i64 n)] H0 (fun v _ => v = .bool true) := by
  rw [lim1_vc]
  have k1 := key_len b
  have k2 := key_len c
  have k3 := key_ne b
  have k4 := key_ne c
  have k5 := key_lt b c
  have k6 := key_lt c b
  repeat' first
    | (refine And.intro ?_ ?_)
    | (intro h; simp only [decide_eq_true_eq] at h)
    | (intro h; simp only [decide_eq_false_iff_not] at h)
    | (intro h)
  all_goals first
    | rfl
    | assumption
    | (simp only [decide_eq_true_eq]; omega)
    | (simp only [decide_eq_false_iff_not]; omega)
    | (refine beq_eq_false_iff_ne.2 ?_; omega)
    | omega
    | (exfalso; omega)
    | (simp_all; done)
    | skip

set_option maxHeartbeats 4000000 in
theorem lim2_run (hw : what % 8 = 2) : lawV std Try.prog (limCons std keyOf 2) (limCall std keyOf) 90 (fun _ => none) Try.f4 (bodyLim Try.prog 4) [limQ a b c d e, mk (.int .i64 what), mk (.int .i64 n)] H0 (fun v _ => v = .bool true) := by
  rw [lim2_vc]
  have k1 := key_len b
  have k2 := key_len c
  have k3 := key_ne b
  have k4 := key_ne c
  have k5 := key_lt b c
  have k6 := key_lt c b
  repeat' first
    | (refine And.intro ?_ ?_)
    | (intro h; simp only [decide_eq_true_eq] at h)
    | (intro h; simp only [decide_eq_false_iff_not] at h)
    | (intro h)
  all_goals first
    | rfl
    | assumption
    | (simp only [decide_eq_true_eq]; omega)
    | (simp only [decide_eq_false_iff_not]; omega)
    | (refine beq_eq_false_iff_ne.2 ?_; omega)
    | omega
    | (exfalso; omega)
    | (simp_all; done)
    | skip

set_option maxHeartbeats 4000000 in
theorem lim3_run (hw : what % 8 = 3) : lawV std Try.prog (limCons std keyOf 3) (limCall std keyOf) 90 (fun _ => none) Try.f4 (bodyLim Try.prog 4) [limQ a b c d e, mk (.int .i64 what), mk (.int .i64 n)] H0 (fun v _ => v = .bool true) := by
  rw [lim3_vc]
  have k1 := key_len b
  have k2 := key_len c
  have k3 := key_ne b
  have k4 := key_ne c
  have k5 := key_lt b c
  have k6 := key_lt c b
  repeat' first
    | (refine And.intro ?_ ?_)
    | (intro h; simp only [decide_eq_true_eq] at h)
    | (intro h; simp only [decide_eq_false_iff_not] at h)
    | (intro h)
  all_goals first
    | rfl
    | assumption
    | (simp only [decide_eq_true_eq]; omega)
    | (simp only [decide_eq_false_iff_not]; omega)
    | (refine beq_eq_false_iff_ne.2 ?_; omega)
    | omega
    | (exfalso; omega)
    | (simp_all; done)
    | skip

set_option maxHeartbeats 4000000 in
theorem lim4_run (hw : what % 8 = 4) : lawV std Try.prog (limCons std keyOf 4) (limCall std keyOf) 90 (fun _ => none) Try.f4 (bodyLim Try.prog 4) [limQ a b c d e, mk (.int .i64 what), mk (.int .i64 n)] H0 (fun v _ => v = .bool true) := by
  rw [lim4_vc]
  have k1 := key_len b
  have k2 := key_len c
  have k3 := key_ne b
  have k4 := key_ne c
  have k5 := key_lt b c
  have k6 := key_lt c b
  repeat' first
    | (refine And.intro ?_ ?_)
    | (intro h; simp only [decide_eq_true_eq] at h)
    | (intro h; simp only [decide_eq_false_iff_not] at h)
    | (intro h)
  all_goals first
    | rfl
    | assumption
    | (simp only [decide_eq_true_eq]; omega)
    | (simp only [decide_eq_false_iff_not]; omega)
    | (refine beq_eq_false_iff_ne.2 ?_; omega)
    | omega
    | (exfalso; omega)
    | (simp_all; done)
    | skip

set_option maxHeartbeats 4000000 in
theorem lim5_run (hw : what % 8 = 5) : lawV std Try.prog (limCons std keyOf 5) (limCall std keyOf) 90 (fun _ => none) Try.f4 (bodyLim Try.prog 4) [limQ a b c d e, mk (.int .i64 what), mk (.int .i64 n)] H0 (fun v _ => v = .bool true) := by
  rw [lim5_vc]
  have k1 := key_len b
  have k2 := key_len c
  have k3 := key_ne b
  have k4 := key_ne c
  have k5 := key_lt b c
  have k6 := key_lt c b
  repeat' first
    | (refine And.intro ?_ ?_)
    | (intro h; simp only [decide_eq_true_eq] at h)
    | (intro h; simp only [decide_eq_false_iff_not] at h)
    | (intro h)
  all_goals first
    | rfl
    | assumption
    | (simp only [decide_eq_true_eq]; omega)
    | (simp only [decide_eq_false_iff_not]; omega)
    | (refine beq_eq_false_iff_ne.2 ?_; omega)
    | omega
    | (exfalso; omega)
    | (simp_all; done)
    | skip

set_option maxHeartbeats 4000000 in
theorem lim6_run (hw : what % 8 = 6) : lawV std Try.prog (limCons std keyOf 6) (limCall std keyOf) 90 (fun _ => none) Try.f4 (bodyLim Try.prog 4) [limQ a b c d e, mk (.int .i64 what), mk (.int .i64 n)] H0 (fun v _ => v = .bool true) := by
  rw [lim6_vc]
  have k1 := key_len b
  have k2 := key_len c
  have k3 := key_ne b
  have k4 := key_ne c
  have k5 := key_lt b c
  have k6 := key_lt c b
  repeat' first
    | (refine And.intro ?_ ?_)
    | (intro h; simp only [decide_eq_true_eq] at h)
    | (intro h; simp only [decide_eq_false_iff_not] at h)
    | (intro h)
  all_goals first
    | rfl
    | assumption
    | (simp only [decide_eq_true_eq]; omega)
    | (simp only [decide_eq_false_iff_not]; omega)
    | (refine beq_eq_false_iff_ne.2 ?_; omega)
    | omega
    | (exfalso; omega)
    | (simp_all; done)
    | skip

set_option maxHeartbeats 4000000 in
theorem lim7_run (hw : what % 8 = 7) : lawV std Try.prog (limCons std keyOf 7) (limCall std keyOf) 90 (fun _ => none) Try.f4 (bodyLim Try.prog 4) [limQ a b c d e, mk (.int .i64 what), mk (.int .i64 n)] H0 (fun v _ => v = .bool true) := by
  rw [lim7_vc]
  have k1 := key_len b
  have k2 := key_len c
  have k3 := key_ne b
  have k4 := key_ne c
  have k5 := key_lt b c
  have k6 := key_lt c b
  repeat' first
    | (refine And.intro ?_ ?_)
    | (intro h; simp only [decide_eq_true_eq] at h)
    | (intro h; simp only [decide_eq_false_iff_not] at h)
    | (intro h)
  all_goals first
    | rfl
    | assumption
    | (simp only [decide_eq_true_eq]; omega)
    | (simp only [decide_eq_false_iff_not]; omega)
    | (refine beq_eq_false_iff_ne.2 ?_; omega)
    | omega
    | (exfalso; omega)
    | (simp_all; done)
    | skip

end

theorem queryLimits_body : Try.f4.body = some (bodyLim Try.prog 4) := by kernel_rfl
set_option maxRecDepth 100000 in
theorem queryLimits_calls (a b c d e a1 a2 : Int) (w : World) :
    Calls Try.prog 4 #[.agg #[.int .i64 a, .int .i64 b, .int .i64 c, .int .i64 d, .int .i64 e], .int .i64 a1, .int .i64 a2] w fun en w' => Below w.heap.size w w' ∧ en = .returned (.bool true) := by
  have m : ∀ x : Int, VR1 MuN (mk (.int .i64 x)) (.int .i64 x) := fun x => .zero (.mark (.plain rfl) rfl)
  have fin : ∀ r : Nat, lawV std Try.prog (limCons std keyOf r) (limCall std keyOf) 90 (fun _ => none) Try.f4 (bodyLim Try.prog 4) [limQ a b c d e, mk (.int .i64 a1), mk (.int .i64 a2)] H0 (fun v _ => v = .bool true) → Calls Try.prog 4 #[.agg #[.int .i64 a, .int .i64 b, .int .i64 c, .int .i64 d, .int .i64 e], .int .i64 a1, .int .i64 a2] w fun en w' => Below w.heap.size w w' ∧ en = .returned (.bool true) := by
    intro r hr
    exact law_callsF Try.progOk (limCons_ok r) limCall_ok Try.func4 queryLimits_body (args := [limQ a b c d e, mk (.int .i64 a1), mk (.int .i64 a2)]) (h0 := H0) (fun b x h => by unfold H0 Hp.get at h; simp at h) hr (μ := MuN)
      (All2.cons (.a (.agg (All2.cons (m a) (All2.cons (m b) (All2.cons (m c) (All2.cons (m d) (All2.cons (m e) All2.nil))))))) (All2.cons (.zero (.mark (.plain rfl) rfl)) (All2.cons (.zero (.mark (.plain rfl) rfl)) All2.nil))) (rel_none _ (Nat.le_refl _)) (fun _ _ => rfl)
  have h8 : a1 % 8 = 0 ∨ a1 % 8 = 1 ∨ a1 % 8 = 2 ∨ a1 % 8 = 3 ∨ a1 % 8 = 4 ∨ a1 % 8 = 5 ∨ a1 % 8 = 6 ∨ a1 % 8 = 7 := by omega
  rcases h8 with h | h | h | h | h | h | h | h
  · exact fin 0 (lim0_run a b c d e a1 a2 h)
  · exact fin 1 (lim1_run a b c d e a1 a2 h)
  · exact fin 2 (lim2_run a b c d e a1 a2 h)
  · exact fin 3 (lim3_run a b c d e a1 a2 h)
  · exact fin 4 (lim4_run a b c d e a1 a2 h)
  · exact fin 5 (lim5_run a b c d e a1 a2 h)
  · exact fin 6 (lim6_run a b c d e a1 a2 h)
  · exact fin 7 (lim7_run a b c d e a1 a2 h)

set_option maxRecDepth 100000 in
theorem queryLimits_lifted (os : Os) (started : os.Started) (H : Type) (enc : TypeId × Value → H) :
    ReturnsInHanded {} Try.checked os 4 .any (Rows.queryLimitsSpec.pre6 enc Try.prog Try.f4 Rows.queryLimitsRow.domain false) (Rows.queryLimitsSpec.post enc Try.prog Try.f4 false true false false) := by
  refine returnsInHanded_of_change (C := Try.checked) Try.own started (by kernel_rfl) Try.func4
    (ChangeSpec.witness6 (enc := enc) (C := Try.checked) false ⟨#[], #[.agg #[.int .i64 0, .int .i64 0, .int .i64 0, .int .i64 0, .int .i64 0], .int .i64 0, .int .i64 0], []⟩ 8 (by kernel_rfl) (by kernel_rfl) (by kernel_rfl) (by kernel_rfl)) ?_
  intro W base args ds gs before hval0 hW hcnd _
  have hval : ∀ (j : Nat) t v, Try.f4.params[j]? = some t → args[j]? = some v → Value.okWide Try.prog W .any base t v := hval0
  have hW' := hW
  obtain ⟨p, q, hA0, hV, rfl, hfz, hnd⟩ := hW
  have hA : DataW.TrodAll enc Try.prog W 0 (fun _ => true) true Try.f4.params.toList args.toList ds p := hA0
  rw [Try.params4] at hA hval
  have hAk := hA
  obtain ⟨v0, v1, v2, d0, d1, d2, p0, p1, p2, rfl, rfl, rfl, h0, h1, h2⟩ := trodAll_three hA
  obtain ⟨rfl, rfl⟩ := trodVars_none hV
  obtain ⟨a1, rfl, rfl, rfl, wa1⟩ := open_int Try.underlying3 (hval 1 3 v1 rfl rfl) h1
  obtain ⟨a2, rfl, rfl, rfl, wa2⟩ := open_int Try.underlying3 (hval 2 3 v2 rfl rfl) h2
  obtain ⟨cs, rfl, hcs⟩ := okWide_struct Try.underlying36 (hval 0 36 v0 rfl rfl)
  obtain ⟨fuel, hf⟩ := h0
  have hcs : cs.toList.length = 5 := by rw [Array.length_toList, hcs]; kernel_rfl
  obtain ⟨_, _, _, _, _, hl, ⟨a, rfl⟩, ⟨b, rfl⟩, ⟨c, rfl⟩, ⟨d, rfl⟩, ⟨e, rfl⟩⟩ := five (P := fun v => ∃ n, v = Value.int .i64 n) hcs fun i hi => by
    obtain ⟨n, hn⟩ := struct_ints Try.underlying36 (by kernel_rfl) Try.underlying3 (by kernel_rfl) hf i hi
    exact ⟨_, hn, n, rfl⟩
  have hcs2 : cs = #[.int .i64 a, .int .i64 b, .int .i64 c, .int .i64 d, .int .i64 e] := Array.toList_inj.1 hl
  subst hcs2
  clear hA0 hval0
  have hAk : DataW.TrodAll enc Try.prog W 0 (fun _ => true) true [36, 3, 3] [.agg #[.int .i64 a, .int .i64 b, .int .i64 c, .int .i64 d, .int .i64 e], .int .i64 a1, .int .i64 a2] [d0, .lit (.int .i64 a1), .lit (.int .i64 a2)] p0 := by simpa using hAk
  have hlt : ∀ x ∈ p0, x.block < W.heap.size := fun x hx => hW'.lt x (by simpa using hx)
  refine (queryLimits_calls a b c d e a1 a2 W).mono fun en W' ⟨hb, he⟩ => ?_
  subst he
  exact ⟨_, rfl, post_below (pa := p0) (pv := []) hW' (fun _ _ _ => trodAll_mk1 (shut_bool Try.underlying4 true)) (fun sp hsp => trodAll_stays (by kernel_rfl) hb (by decide +kernel) hAk hlt (fun x hx => hsp x (by simpa using hx))) (fun _ _ => rfl) (by simp) hb (ok_one (by kernel_rfl) rfl (okWide_bool_mk Try.underlying4 true))⟩

theorem queryLimits_holds : Rows.QueryLimitsSaid :=
  OpenClaim.holds_of_wide 4 Try.f4 rfl rfl rfl rfl rfl rfl rfl ⟨rfl, rfl, rfl, rfl, rfl⟩ rfl rfl rfl rfl rfl (by kernel_rfl) Try.func4 (by kernel_rfl)
    (of_decide_eq_true (by kernel_rfl)) (by unfold Func.isWrapper; first | (rw [if_pos (by decide +kernel)]; kernel_rfl) | (rw [if_neg (by decide +kernel)]; exact ⟨rfl, rfl⟩))
    (fun os started H enc _ => queryLimits_lifted os started H enc)
end Go.Proofs.Ytledddhagpgfaaa
