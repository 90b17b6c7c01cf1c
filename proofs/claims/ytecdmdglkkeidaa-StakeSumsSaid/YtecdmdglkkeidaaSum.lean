/-
  StakeSums: the program's law is true for all numbers, and what was there stays as it was. No conditions.
-/
import Derived.Test.YtecdmdglkkeidaaSame
import Derived.Test.YtecdmdglkkeidaaAbs42
namespace Go.Proofs.Ytecdmdglkkeidaa
open Go.ChangeShapes Go.WideShapes Go.ChangeAt Go.RowKit Go.Abs

theorem withinB_ok : ∀ args h K, withinB std args h K → CallSem Try.prog 15 args h K := by
  intro args h K e
  unfold withinB at e
  split at e
  case h_2 => exact e.elim
  rename_i a lo b
  split at e
  case h_2 => exact e.elim
  rename_i n hi ha hb
  split at e
  case isFalse => exact e.elim
  rename_i hlo
  obtain ⟨⟨g1, g2⟩, hK⟩ := e
  have g1 : lo ≤ hi := g1
  have g2 : hi ≤ 2000000000000 := g2
  have h5 := Int.emod_nonneg n (by omega : hi - lo + 1 ≠ 0)
  have h6 := Int.emod_lt_of_pos n (by omega : 0 < hi - lo + 1)
  have hk := hK (lo + n % (hi - lo + 1)) ⟨show lo ≤ lo + n % (hi - lo + 1) by omega, show lo + n % (hi - lo + 1) ≤ hi by omega⟩
  intro μ base w args' hl hrel hfree
  obtain ⟨c, hbd⟩ : ∃ c, Try.f15.body = some c := ⟨_, rfl⟩
  obtain ⟨v1, l1, e1, r1, hl⟩ := hl.inv_cons
  obtain ⟨v2, l2, e2, r2, hl⟩ := hl.inv_cons
  obtain ⟨v3, l3, e3, r3, hl⟩ := hl.inv_cons
  have e4 := hl.inv_nil
  have r1 := r1.den
  have r3 := r3.den
  rw [ha] at r1; rw [hb] at r3
  rw [r1.inv_int] at e1; rw [r2.inv_int] at e2; rw [r3.inv_int] at e3
  subst e4; subst e3; subst e2
  have : args' = #[.int .i64 n, .int .i64 lo, .int .i64 hi] := Array.toList_inj.1 e1
  subst this
  refine .inr ⟨enters_name Try.func15 hbd _ w, (within_any n lo hi w hlo g1 g2).mono ?_⟩
  rintro en w' ⟨rfl, rfl⟩
  exact ⟨_, rfl, _, h, μ, hk, cout_below hrel hfree (Below.refl _ _) (.zero (.mark (.plain rfl) rfl))⟩
theorem runs_val : LVal Try.prog 3 [] (.bool true) := by
  intro μ w args' hl
  obtain ⟨c, hc⟩ := stakeRuns_body
  have : args' = #[] := Array.toList_eq_nil_iff.1 hl.inv_nil
  subst this
  exact ⟨.bool true, fun μ' => .plain1 rfl, enters_name Try.func3 hc _ w, calls_plain (knownOk_none Try.prog) Try.func3 hc rfl stakeRuns_run w⟩
theorem runsD_ok : ∀ args h K, closedC (.bool true) args h K → FunSem Try.prog 3 args h K := by
  intro args h K e
  unfold closedC at e
  split at e
  · exact runs_val.draw e
  · exact e.elim
theorem sumCons_ok : ConOk Try.prog (sumCons std recOf) := by
  obtain ⟨c, hc⟩ := stakeRuns_body
  refine draw_ok (tellG_ok (conL_ok fun x hx => ?_) _) fun x hx => ?_
  · simp only [List.mem_cons, List.not_mem_nil, or_false] at hx
    rcases hx with rfl | rfl | rfl | rfl | rfl
    · exact withinB_ok
    · exact recC_ok
    · exact readX_ok
    · exact mayC_ok
    · exact closedC_ok (knownOk_none Try.prog) Try.func3 hc rfl stakeRuns_run
  · simp only [List.mem_cons, List.not_mem_nil, or_false] at hx
    rcases hx with rfl | rfl
    · exact sameD_ok
    · exact runsD_ok
/-- A slash takes its part, rounded up. -/
theorem slash_facts {t x y : Int} (ht : 0 ≤ t ∧ t ≤ 9000000) (hx : 0 ≤ x ∧ x ≤ y) (hy : 1 ≤ y ∧ y ≤ 1000) :
    (0 ≤ t * (y - x) ∧ t * (y - x) ≤ 9000000000) ∧ (0 ≤ t * x ∧ t * x ≤ 9000000000) ∧ (0 ≤ std.quo (t * x + y - 1) y ∧ std.quo (t * x + y - 1) y ≤ t) ∧ std.quo (t * (y - x)) y = t - std.quo (t * x + y - 1) y := by
  have m1 : 0 ≤ t * (y - x) := Int.mul_nonneg ht.1 (by omega)
  have m2 : t * (y - x) ≤ 9000000 * 1000 := Int.mul_le_mul ht.2 (by omega) (by omega) (by omega)
  have m3 : 0 ≤ t * x := Int.mul_nonneg ht.1 hx.1
  have m4 : t * x ≤ 9000000 * 1000 := Int.mul_le_mul ht.2 (by omega) hx.1 (by omega)
  have e1 : t * (y - x) = t * y - t * x := Int.mul_sub t y x
  show _ ∧ _ ∧ (0 ≤ (t * x + y - 1).tdiv y ∧ (t * x + y - 1).tdiv y ≤ t) ∧ (t * (y - x)).tdiv y = t - (t * x + y - 1).tdiv y
  rw [Int.tdiv_eq_ediv_of_nonneg (show 0 ≤ t * x + y - 1 by omega), Int.tdiv_eq_ediv_of_nonneg m1]
  have q0 : 0 ≤ (t * x + y - 1) / y := Int.ediv_nonneg (by omega) (by omega)
  have q1 : (t * x + y - 1) / y * y ≤ t * x + y - 1 := Int.ediv_mul_le _ (by omega)
  have q2 : t * x + y - 1 < ((t * x + y - 1) / y + 1) * y := Int.lt_ediv_add_one_mul_self _ (by omega)
  generalize (t * x + y - 1) / y = q at q0 q1 q2
  have q3 : (q + 1) * y = q * y + y := by rw [Int.add_mul, Int.one_mul]
  have q4 : (t - q) * y = t * y - q * y := Int.sub_mul t q y
  have q5 : (t - q + 1) * y = t * y - q * y + y := by rw [Int.add_mul, Int.one_mul, q4]
  have s1 : t - q ≤ t * (y - x) / y := Int.le_ediv_of_mul_le (by omega) (by omega)
  have s2 : t * (y - x) / y < t - q + 1 := Int.ediv_lt_of_lt_mul (by omega) (by omega)
  have s3 : 0 ≤ t * (y - x) / y := Int.ediv_nonneg m1 (by omega)
  exact ⟨⟨m1, by omega⟩, ⟨m3, by omega⟩, ⟨q0, by omega⟩, by omega⟩
theorem slen_sc : std.slen (ByteArray.mk (Array.mk [(115 : UInt8), (47 : UInt8), (99 : UInt8)])) = 3 := rfl
theorem slen_b : std.slen (ByteArray.mk (Array.mk [(98 : UInt8)])) = 1 := rfl
set_option maxRecDepth 1000000 in
set_option maxHeartbeats 40000000 in
theorem sum_run (zs : List Int) (n : Nat) (hn : n ≤ zs.length) (a b : Int) :
    lawV std Try.prog (sumCons std recOf) (inCallF 60) 90 (fun _ => none) Try.f6 (bodyS Try.prog 6) [mk (.slice (some ⟨0, 0, none⟩) n (UNK0 + 1)), mk (.int .i64 a), mk (.int .i64 b)] (inH [some (.row (.ints .i64 zs) true)]) (fun v _ => v = .bool true) := by
  rw [sum_vc]
  simp (config := { maxSteps := 10000000 }) only [Int.zero_add, seq_self, seq_none, slen_sa, slen_sb, slen_sc]
  repeat' first
    | (refine And.intro ?_ ?_)
    | ((fail_if_success (have := v0)); (intro (v0 : Int) (h0 : 0 ≤ v0 ∧ v0 ≤ 1000000)))
    | ((fail_if_success (have := v1)); (intro (v1 : Int) (h1 : 0 ≤ v1 ∧ v1 ≤ 1000000)))
    | ((fail_if_success (have := v2)); (intro (v2 : Int) (h2 : 0 ≤ v2 ∧ v2 ≤ 1000000)))
    | ((fail_if_success (have := v3)); (intro (v3 : Int) (h3 : 0 ≤ v3 ∧ v3 ≤ 1000000)))
    | ((fail_if_success (have := v4)); (intro (v4 : Int) (h4 : 0 ≤ v4 ∧ v4 ≤ 1000000)))
    | ((fail_if_success (have := v5)); (intro (v5 : Int) (h5 : 0 ≤ v5 ∧ v5 ≤ 1000000)))
    | ((fail_if_success (have := v6)); (intro (v6 : Int) (h6 : 0 ≤ v6 ∧ v6 ≤ 1000000)))
    | ((fail_if_success (have := v7)); (intro (v7 : Int) (h7 : 0 ≤ v7 ∧ v7 ≤ 1000000)))
    | ((fail_if_success (have := v8)); (intro (v8 : Int) (h8 : 0 ≤ v8 ∧ v8 ≤ 1000000)))
    | (intro (y : Int) (hy : 1 ≤ y ∧ y ≤ 1000))
    | (intro (x : Int) (hx : 0 ≤ x ∧ x ≤ y)
       have s1 := slash_facts (t := v0) ⟨by omega, by omega⟩ hx hy
       try have s2 := slash_facts (t := v0 + v3) ⟨by omega, by omega⟩ hx hy)
    | (refine ⟨_, _, ⟨?_, rfl⟩, ?_⟩)
    | (intro q; simp only [decide_eq_true_eq] at q)
    | (intro q; simp only [decide_eq_false_iff_not] at q)
    | (intro q; simp only [beq_iff_eq] at q)
    | (intro q; simp only [beq_eq_false_iff_ne, ne_eq] at q)
    | (intro q)
  all_goals first
    | exact trivial
    | rfl
    | omega
    | (refine decide_eq_true ?_; omega)
    | (refine decide_eq_false ?_; omega)
    | exact Nat.le_trans (rec_short _ _) (by omega)
    | exact Nat.le_of_ble_eq_true rfl
    | (exfalso; omega)
    | exact absurd trivial ‹¬True›
    | skip
theorem sumN_run (a b : Int) : lawV std Try.prog (sumCons std recOf) (inCallF 60) 90 (fun _ => none) Try.f6 (bodyS Try.prog 6) [.slice none 0 0, mk (.int .i64 a), mk (.int .i64 b)] (inH []) (fun v _ => v = .bool true) := by
  rw [sumN_vc]
theorem sumE_run (a b : Int) : lawV std Try.prog (sumCons std recOf) (inCallF 60) 90 (fun _ => none) Try.f6 (bodyS Try.prog 6) [.slice (some ⟨0, 0, none⟩) 0 0, mk (.int .i64 a), mk (.int .i64 b)] (inH [none]) (fun v _ => v = .bool true) := by
  rw [sumE_vc]
theorem stakeSums_body : Try.f6.body = some (bodyS Try.prog 6) := by kernel_rfl
/-- What is known of a slice of integers that came in. -/
def IntsIn (w : World) (v : Value) : Prop :=
  v = .slice none 0 0 ∨ ∃ (a : Addr) (len cap : Nat) (zs : List Int), v = .slice (some a) len cap ∧ len ≤ cap ∧ zs.length = cap ∧ (∀ i, i < zs.length → w.cell? (a.add i) = some (.int .i64 (zs.getD i 0)))

set_option maxRecDepth 100000 in
theorem stakeSums_calls (v0 : Value) (a1 a2 : Int) (w : World) (h0 : IntsIn w v0) :
    Calls Try.prog 6 #[v0, .int .i64 a1, .int .i64 a2] w fun e w' => Below w.heap.size w w' ∧ e = .returned (.bool true) := by
  rcases h0 with rfl | ⟨a, len, cap, zs, rfl, hl, hc, hcell⟩
  · exact law_callsF Try.progOk sumCons_ok (inCallF_ok 60) Try.func6 stakeSums_body (args := [.slice none 0 0, mk (.int .i64 a1), mk (.int .i64 a2)]) (h0 := inH []) (in_ro (l := []) (base := w.heap.size) (w := w) (fun x hx => by cases hx)) (sumN_run a1 a2)
      (μ := inMu []) (All2.cons (.plain1 rfl) (All2.cons (.zero (.mark (.plain rfl) rfl)) (All2.cons (.zero (.mark (.plain rfl) rfl)) All2.nil))) (in_rel (l := []) (Nat.le_refl _) (fun x hx => by cases hx)) (in_free [])
  · by_cases hne : 0 < zs.length
    · obtain ⟨hs, p, hpc, hps, hN, hok⟩ := in_ints (base := w.heap.size) hne hcell
      obtain ⟨ab, ao, asp⟩ := a
      obtain ⟨pc, ps, pN⟩ := p
      simp only at hs hpc hps hN
      subst hs; subst hpc; subst hps
      have hall : ∀ x ∈ [((⟨pc, ps, pN⟩ : Pl), some (Blk.row (.ints .i64 zs) true))], InOk w.heap.size w x := fun x hx => by
        have : x = ((⟨pc, ps, pN⟩ : Pl), some (Blk.row (.ints .i64 zs) true)) := by simpa using hx
        rw [this]; exact hok
      have hv : VR0 (inMu [((⟨pc, ps, pN⟩ : Pl), some (Blk.row (.ints .i64 zs) true))]) (.slice (some ⟨0, 0, none⟩) len (UNK0 + 1)) (.slice (some ⟨pc, 0 + ps, none⟩) len cap) :=
        VR0.slice (p := ⟨pc, ps, pN⟩) rfl hl (.inl ⟨Nat.le_succ _, by show 0 + ps + cap * (UNK0 + 1 - UNK0) ≤ pN; rw [Nat.add_sub_cancel_left]; omega⟩)
      rw [Nat.zero_add] at hv
      exact law_callsF Try.progOk sumCons_ok (inCallF_ok 60) Try.func6 stakeSums_body (args := [mk (.slice (some ⟨0, 0, none⟩) len (UNK0 + 1)), mk (.int .i64 a1), mk (.int .i64 a2)]) (h0 := inH [some (.row (.ints .i64 zs) true)]) (in_ro hall) (sum_run zs len (by omega) a1 a2)
        (μ := inMu [((⟨pc, ps, pN⟩ : Pl), some (Blk.row (.ints .i64 zs) true))]) (All2.cons (.zero (.mark hv rfl)) (All2.cons (.zero (.mark (.plain rfl) rfl)) (All2.cons (.zero (.mark (.plain rfl) rfl)) All2.nil))) (in_rel (Nat.le_refl _) hall) (in_free [((⟨pc, ps, pN⟩ : Pl), some (Blk.row (.ints .i64 zs) true))])
    · have h2 : cap = 0 := by omega
      have h3 : len = 0 := by omega
      subst h2; subst h3
      have hall : ∀ x ∈ [((⟨0, 0, 0⟩ : Pl), (none : Option Blk))], InOk w.heap.size w x := fun x hx b hb => by
        have : x = ((⟨0, 0, 0⟩ : Pl), (none : Option Blk)) := by simpa using hx
        rw [this] at hb; cases hb
      exact law_callsF Try.progOk sumCons_ok (inCallF_ok 60) Try.func6 stakeSums_body (args := [.slice (some ⟨0, 0, none⟩) 0 0, mk (.int .i64 a1), mk (.int .i64 a2)]) (h0 := inH [none]) (in_ro hall) (sumE_run a1 a2)
        (μ := inMu [((⟨0, 0, 0⟩ : Pl), (none : Option Blk))]) (All2.cons (.zero (VR0.slice0 (p := ⟨0, 0, 0⟩) rfl (.inr rfl))) (All2.cons (.zero (.mark (.plain rfl) rfl)) (All2.cons (.zero (.mark (.plain rfl) rfl)) All2.nil))) (in_rel (Nat.le_refl _) hall) (in_free [((⟨0, 0, 0⟩ : Pl), (none : Option Blk))])

set_option maxRecDepth 100000 in
theorem stakeSums_lifted (os : Os) (started : os.Started) (H : Type) (enc : TypeId × Value → H) :
    ReturnsInHanded {} Try.checked os 6 .any (Rows.stakeSumsSpec.pre6 enc Try.prog Try.f6 Rows.stakeSumsRow.domain false) (Rows.stakeSumsSpec.post enc Try.prog Try.f6 false true false false) := by
  refine returnsInHanded_of_change (C := Try.checked) Try.own started (by kernel_rfl) Try.func6
    (ChangeSpec.witness6 (enc := enc) (C := Try.checked) false ⟨#[], #[.slice none 0 0, .int .i64 0, .int .i64 0], []⟩ 8 (by kernel_rfl) (by kernel_rfl) (by kernel_rfl) (by kernel_rfl)) ?_
  intro W base args ds gs before hval0 hW hcnd _
  have hval : ∀ (j : Nat) t v, Try.f6.params[j]? = some t → args[j]? = some v → Value.okWide Try.prog W .any base t v := hval0
  have hW' := hW
  obtain ⟨p, q, hA0, hV, rfl, hfz, hnd⟩ := hW
  have hA : DataW.TrodAll enc Try.prog W 0 (fun _ => true) true Try.f6.params.toList args.toList ds p := hA0
  rw [Try.params6] at hA hval
  have hAk := hA
  obtain ⟨v0, v1, v2, d0, d1, d2, p0, p1, p2, rfl, rfl, rfl, h0, h1, h2⟩ := trodAll_three hA
  obtain ⟨rfl, rfl⟩ := trodVars_none hV
  obtain ⟨a1, rfl, rfl, rfl, wa1⟩ := open_int Try.underlying3 (hval 1 3 v1 rfl rfl) h1
  obtain ⟨a2, rfl, rfl, rfl, wa2⟩ := open_int Try.underlying3 (hval 2 3 v2 rfl rfl) h2
  obtain ⟨s0, len0, cap0, rfl⟩ := okWide_slice Try.underlying33 (hval 0 33 v0 rfl rfl)
  have hin : IntsIn W (.slice s0 len0 cap0) := by
    obtain ⟨fuel, hf⟩ := h0
    rcases open_ints Try.underlying33 Try.underlying3 (by kernel_rfl) hf with ⟨hcs, _⟩ | ⟨a, len, cap, zs, hcs, _, hl, _, hz, _, hcell, hwz⟩
    · simp [Value.cells] at hcs
      obtain ⟨rfl, rfl, rfl⟩ := hcs
      exact Or.inl rfl
    · simp [Value.cells] at hcs
      obtain ⟨rfl, rfl, rfl⟩ := hcs
      exact Or.inr ⟨a, _, _, zs, rfl, hl, by simpa using hz, hcell⟩
  clear hA0 hval0
  have hAk : DataW.TrodAll enc Try.prog W 0 (fun _ => true) true [33, 3, 3] [.slice s0 len0 cap0, .int .i64 a1, .int .i64 a2] [d0, .lit (.int .i64 a1), .lit (.int .i64 a2)] p0 := by simpa using hAk
  have hlt : ∀ x ∈ p0, x.block < W.heap.size := fun x hx => hW'.lt x (by simpa using hx)
  refine (stakeSums_calls (.slice s0 len0 cap0) a1 a2 W hin).mono fun e W' ⟨hb, he⟩ => ?_
  subst he
  exact ⟨_, rfl, post_below (pa := p0) (pv := []) hW' (fun _ _ _ => trodAll_mk1 (shut_bool Try.underlying4 true)) (fun sp hsp => trodAll_stays (by kernel_rfl) hb (by decide +kernel) hAk hlt (fun x hx => hsp x (by simpa using hx))) (fun _ _ => rfl) (by simp) hb (ok_one (by kernel_rfl) rfl (okWide_bool_mk Try.underlying4 true))⟩

theorem stakeSums_holds : Rows.StakeSumsSaid :=
  OpenClaim.holds_of_wide 6 Try.f6 rfl rfl rfl rfl rfl rfl rfl ⟨rfl, rfl, rfl, rfl, rfl⟩ rfl rfl rfl rfl rfl (by kernel_rfl) Try.func6 (by kernel_rfl)
    (of_decide_eq_true (by kernel_rfl)) (by unfold Func.isWrapper; first | (rw [if_pos (by decide +kernel)]; kernel_rfl) | (rw [if_neg (by decide +kernel)]; exact ⟨rfl, rfl⟩))
    (fun os started H enc _ => stakeSums_lifted os started H enc)
end Go.Proofs.Ytecdmdglkkeidaa
