/-
  RateOrder: the program's law is true for all numbers, and what was there stays as it was. No conditions.
-/
import Derived.Test.YtddejgkfgnokgaaOrdV
namespace Go.Proofs.Ytddejgkfgnokgaa
open Go.ChangeShapes Go.WideShapes Go.ChangeAt Go.RowKit Go.Abs

theorem mul_le_100k {a b A B : Int} (ha : 0 ≤ a ∧ a ≤ A) (hb : 0 ≤ b ∧ b ≤ B) : 0 ≤ a * b ∧ a * b ≤ A * B :=
  ⟨Int.mul_nonneg ha.1 hb.1, Int.mul_le_mul ha.2 hb.2 hb.1 (by omega)⟩
theorem quo_nonneg {a b : Int} (ha : 0 ≤ a) (hb : 0 < b) : 0 ≤ std.quo a b := Int.tdiv_nonneg ha (Int.le_of_lt hb)
theorem quo_lt {a b c : Int} (ha : 0 ≤ a) (hb : 0 < b) (h : a < c * b) : std.quo a b < c := by
  show a.tdiv b < c
  rw [Int.tdiv_eq_ediv_of_nonneg ha]
  exact Int.ediv_lt_of_lt_mul hb h
theorem lt_quo {a b : Int} (ha : 0 ≤ a) (hb : 0 < b) : a < (std.quo a b + 1) * b := by
  show a < (a.tdiv b + 1) * b
  rw [Int.tdiv_eq_ediv_of_nonneg ha]
  exact Int.lt_ediv_add_one_mul_self a hb
/-- Of two who put in as much the second gets no more. -/
theorem ord_facts {y z w : Int} (hy : 1 ≤ y ∧ y ≤ 100000) (hz : 1 ≤ z ∧ z ≤ 100000) (hw : 0 ≤ w ∧ w ≤ 100000) :
    (0 ≤ std.quo (z * y) (w + y) ∧ std.quo (z * y) (w + y) ≤ z) ∧ (0 ≤ z * y ∧ z * y ≤ 10000000000) ∧ (0 ≤ z * (y + std.quo (z * y) (w + y)) ∧ z * (y + std.quo (z * y) (w + y)) ≤ 20000000000) ∧
    (0 ≤ std.quo (z * (y + std.quo (z * y) (w + y))) (w + (y + z)) ∧ std.quo (z * (y + std.quo (z * y) (w + y))) (w + (y + z)) ≤ std.quo (z * y) (w + y)) := by
  have h1 := mul_le_100k (a := z) (b := y) (A := 100000) (B := 100000) ⟨by omega, hz.2⟩ ⟨by omega, hy.2⟩
  have h2 := quo_nonneg h1.1 (show 0 < w + y by omega)
  have h3 := lt_quo h1.1 (show 0 < w + y by omega)
  have h4 : std.quo (z * y) (w + y) < z + 1 := by
    refine quo_lt h1.1 (by omega) ?_
    have e1 : (z + 1) * (w + y) = z * w + z * y + (w + y) := by rw [Int.add_mul, Int.mul_add, Int.one_mul]
    have e2 := Int.mul_nonneg (show 0 ≤ z by omega) hw.1
    omega
  generalize std.quo (z * y) (w + y) = m at h2 h3 h4
  have h5 := mul_le_100k (a := z) (b := y + m) (A := 100000) (B := 200000) ⟨by omega, hz.2⟩ ⟨by omega, by omega⟩
  have h6 := quo_nonneg h5.1 (show 0 < w + (y + z) by omega)
  have h7 : std.quo (z * (y + m)) (w + (y + z)) < m + 1 := by
    refine quo_lt h5.1 (by omega) ?_
    have e1 : (m + 1) * (w + (y + z)) = (m + 1) * (w + y) + (m * z + z) := by rw [← Int.add_assoc w y z, Int.mul_add (m + 1) (w + y) z, Int.add_mul m 1 z, Int.one_mul]
    have e2 : z * (y + m) = z * y + z * m := Int.mul_add z y m
    have e3 : z * m = m * z := Int.mul_comm z m
    omega
  exact ⟨⟨h2, by omega⟩, ⟨h1.1, by omega⟩, ⟨h5.1, by omega⟩, h6, by omega⟩
theorem fof_zero : std.fof 0 = 0 := by have := fof_word (n := 0) (by omega); exact this
theorem ord_mul {x y z : Int} (hx : 0 ≤ x ∧ x ≤ 100000) : (x * z ≤ x * y ↔ (z ≤ y ∨ x = 0)) := by
  by_cases h0 : x = 0
  · subst h0; simp
  · constructor
    · intro h; left; exact Int.le_of_mul_le_mul_left h (by omega)
    · rintro (h | h)
      · exact Int.mul_le_mul_of_nonneg_left h hx.1
      · exact absurd h h0
set_option maxHeartbeats 4000000 in
theorem ord_run (a b c d : Int) (ha : -9223372036854775808 ≤ a ∧ a ≤ 9223372036854775807) (hb : -9223372036854775808 ≤ b ∧ b ≤ 9223372036854775807) (hc : -9223372036854775808 ≤ c ∧ c ≤ 9223372036854775807) (hd : -9223372036854775808 ≤ d ∧ d ≤ 9223372036854775807) :
    lawV std Try.prog (ordCons std) (inCallF 60) 90 (fun _ => none) Try.f5 (bodyR Try.prog 5) [mk (.int .i64 a), mk (.int .i64 b), mk (.int .i64 c), mk (.int .i64 d)] H0 (fun v _ => v = .bool true) := by
  rw [ord_vc]
  refine ⟨ha, fun x hx _ => ⟨hb, fun y hy _ => ⟨hc, fun z hz _ => ?_⟩⟩⟩
  have fx := fint_fof (n := x) ⟨by omega, by omega⟩
  have fy := fint_fof (n := y) ⟨by omega, by omega⟩
  have fz := fint_fof (n := z) ⟨by omega, by omega⟩
  have ox := eq_true (fintOk_fof (n := x) ⟨by omega, by omega⟩)
  have oy := eq_true (fintOk_fof (n := y) ⟨by omega, by omega⟩)
  have oz := eq_true (fintOk_fof (n := z) ⟨by omega, by omega⟩)
  have ay : std.fadd (std.fof y) 0 = std.fof y := by
    have := fadd_fof (m := y) (n := 0) (by omega) (by omega) (by omega)
    rwa [fof_zero, Int.add_zero] at this
  have by' : std.faddOk (std.fof y) 0 = True := by
    have := faddOk_fof (m := y) (n := 0) (by omega) (by omega) (by omega)
    rw [fof_zero] at this
    exact eq_true this
  have hxy := mul_le_100k (a := x) (b := y) (A := 100000) (B := 100000) ⟨by omega, hx.2⟩ ⟨by omega, hy.2⟩
  have hxz := mul_le_100k (a := x) (b := z) (A := 100000) (B := 100000) ⟨by omega, hx.2⟩ ⟨by omega, hz.2⟩
  have hm := ord_mul (y := y) (z := z) hx
  simp only [fx, fy, fz, ox, oy, oz, ay, by', Int.zero_add, Int.add_zero, true_and, and_true]
  repeat' first
    | exact ha
    | exact hb
    | exact hc
    | exact hd
    | (intro h; simp only [beq_iff_eq] at h; exfalso; omega)
    | (intro h; simp only [decide_eq_false_iff_not] at h; exfalso; omega)
    | (intro h; simp only [decide_eq_true_eq] at h)
    | (intro h; simp only [decide_eq_false_iff_not] at h)
    | (intro h; simp only [beq_iff_eq] at h)
    | (intro h; simp only [beq_eq_false_iff_ne, ne_eq] at h)
    | (refine And.intro ?_ ?_)
    | (intro (w : Int) hw hw2
       have hf := ord_facts hy hz (w := w) ⟨by omega, by omega⟩
       have hxw := mul_le_100k (a := x + w) (b := y) (A := 200000) (B := 100000) ⟨by omega, by omega⟩ ⟨by omega, hy.2⟩
       have hxm : x * y ≤ (x + w) * y := Int.mul_le_mul_of_nonneg_right (by omega) (by omega)
       have f1 := fadd_fof (m := x) (n := w) (by omega) (by omega) (by omega)
       have f2 := fint_fof (n := x + w) ⟨by omega, by omega⟩
       have f3 := eq_true (fintOk_fof (n := x + w) ⟨by omega, by omega⟩)
       have f4 := eq_true (faddOk_fof (m := x) (n := w) (by omega) (by omega) (by omega))
       try simp only [f1, f2, f3, f4, true_and])
    | (intro h)
  all_goals first
    | exact trivial
    | rfl
    | omega
    | (refine decide_eq_true ?_; omega)
    | (refine decide_eq_false ?_; omega)
    | (refine beq_eq_false_iff_ne.2 ?_; omega)
theorem rateOrder_body : Try.f5.body = some (bodyR Try.prog 5) := by kernel_rfl
theorem rateOrder_calls (a0 a1 a2 a3 : Int) (h0 : -9223372036854775808 ≤ a0 ∧ a0 ≤ 9223372036854775807) (h1 : -9223372036854775808 ≤ a1 ∧ a1 ≤ 9223372036854775807) (h2 : -9223372036854775808 ≤ a2 ∧ a2 ≤ 9223372036854775807) (h3 : -9223372036854775808 ≤ a3 ∧ a3 ≤ 9223372036854775807) (w : World) :
    Calls Try.prog 5 #[.int .i64 a0, .int .i64 a1, .int .i64 a2, .int .i64 a3] w fun e w' => Below w.heap.size w w' ∧ e = .returned (.bool true) :=
  law_callsF Try.progOk (rateCons_ok ordTell) (inCallF_ok 60) Try.func5 rateOrder_body (args := [mk (.int .i64 a0), mk (.int .i64 a1), mk (.int .i64 a2), mk (.int .i64 a3)]) (h0 := H0) (fun b x h => by unfold H0 Hp.get at h; simp at h) (ord_run a0 a1 a2 a3 h0 h1 h2 h3) (μ := MuN)
    (All2.cons (.zero (.mark (.plain rfl) rfl)) (All2.cons (.zero (.mark (.plain rfl) rfl)) (All2.cons (.zero (.mark (.plain rfl) rfl)) (All2.cons (.zero (.mark (.plain rfl) rfl)) All2.nil)))) (rel_none _ (Nat.le_refl _)) (fun _ _ => rfl)
set_option maxRecDepth 100000 in
theorem rateOrder_lifted (os : Os) (started : os.Started) (H : Type) (enc : TypeId × Value → H) :
    ReturnsInHanded {} Try.checked os 5 .any (Rows.rateOrderSpec.pre6 enc Try.prog Try.f5 Rows.rateOrderRow.domain false) (Rows.rateOrderSpec.post enc Try.prog Try.f5 false true false false) := by
  refine returnsInHanded_of_change (C := Try.checked) Try.own started (by kernel_rfl) Try.func5
    (ChangeSpec.witness6 (enc := enc) (C := Try.checked) false ⟨#[], #[.int .i64 0, .int .i64 0, .int .i64 0, .int .i64 0], []⟩ 8 (by kernel_rfl) (by kernel_rfl) (by kernel_rfl) (by kernel_rfl)) ?_
  intro W base args ds gs before hval0 hW hcnd _
  have hval : ∀ (j : Nat) t v, Try.f5.params[j]? = some t → args[j]? = some v → Value.okWide Try.prog W .any base t v := hval0
  have hW' := hW
  obtain ⟨p, q, hA0, hV, rfl, hfz, hnd⟩ := hW
  have hA : DataW.TrodAll enc Try.prog W 0 (fun _ => true) true Try.f5.params.toList args.toList ds p := hA0
  rw [Try.params5] at hA hval
  obtain ⟨v0, v1, v2, v3, d0, d1, d2, d3, p0, p1, p2, p3, rfl, rfl, rfl, h0, h1, h2, h3⟩ := trodAll_four hA
  obtain ⟨rfl, rfl⟩ := trodVars_none hV
  obtain ⟨a0, rfl, rfl, rfl, wa0⟩ := open_int Try.underlying3 (hval 0 3 v0 rfl rfl) h0
  obtain ⟨a1, rfl, rfl, rfl, wa1⟩ := open_int Try.underlying3 (hval 1 3 v1 rfl rfl) h1
  obtain ⟨a2, rfl, rfl, rfl, wa2⟩ := open_int Try.underlying3 (hval 2 3 v2 rfl rfl) h2
  obtain ⟨a3, rfl, rfl, rfl, wa3⟩ := open_int Try.underlying3 (hval 3 3 v3 rfl rfl) h3
  clear hA0 hval0
  simp only [List.append_nil] at hW'
  refine (rateOrder_calls a0 a1 a2 a3 (i64_range wa0) (i64_range wa1) (i64_range wa2) (i64_range wa3) W).mono fun e W' ⟨hb, he⟩ => ?_
  subst he
  exact ⟨_, rfl, post_below (pa := []) (pv := []) hW' (fun _ _ _ => trodAll_mk1 (shut_bool Try.underlying4 true)) (fun sp _ => trodAll_mk4 (shut_int Try.underlying3 wa0) (shut_int Try.underlying3 wa1) (shut_int Try.underlying3 wa2) (shut_int Try.underlying3 wa3)) (fun _ _ => rfl) rfl hb (ok_one (by kernel_rfl) rfl (okWide_bool_mk Try.underlying4 true))⟩

theorem rateOrder_holds : Rows.RateOrderSaid :=
  OpenClaim.holds_of_wide 5 Try.f5 rfl rfl rfl rfl rfl rfl rfl ⟨rfl, rfl, rfl, rfl, rfl⟩ rfl rfl rfl rfl rfl (by kernel_rfl) Try.func5 (by kernel_rfl)
    (of_decide_eq_true (by kernel_rfl)) (by unfold Func.isWrapper; first | (rw [if_pos (by decide +kernel)]; kernel_rfl) | (rw [if_neg (by decide +kernel)]; exact ⟨rfl, rfl⟩))
    (fun os started H enc _ => rateOrder_lifted os started H enc)
end Go.Proofs.Ytddejgkfgnokgaa
