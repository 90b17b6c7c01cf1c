/-
  RateRound: the program's law is true for all numbers, and what was there stays as it was. No conditions.
-/
import Derived.Test.YtddejgkfgnokgaaRndV
namespace Go.Proofs.Ytddejgkfgnokgaa
open Go.ChangeShapes Go.WideShapes Go.ChangeAt Go.RowKit Go.Abs

theorem mul_le_in {a b A B : Int} (ha : 0 ≤ a ∧ a ≤ A) (hb : 0 ≤ b ∧ b ≤ B) : 0 ≤ a * b ∧ a * b ≤ A * B :=
  ⟨Int.mul_nonneg ha.1 hb.1, Int.mul_le_mul ha.2 hb.2 hb.1 (by omega)⟩
theorem quo_pos {a b : Int} (ha : 0 ≤ a) (hb : 0 < b) : 0 ≤ std.quo a b := Int.tdiv_nonneg ha (Int.le_of_lt hb)
theorem quo_less {a b c : Int} (ha : 0 ≤ a) (hb : 0 < b) (h : a < c * b) : std.quo a b < c := by
  show a.tdiv b < c
  rw [Int.tdiv_eq_ediv_of_nonneg ha]
  exact Int.ediv_lt_of_lt_mul hb h
theorem quo_mul {a b : Int} (ha : 0 ≤ a) (hb : 0 < b) : std.quo a b * b ≤ a := by
  show a.tdiv b * b ≤ a
  rw [Int.tdiv_eq_ediv_of_nonneg ha]
  exact Int.ediv_mul_le a (by omega)
/-- Minted: no more than put in; the rate rises. -/
theorem rnd1 {x w y : Int} (hx : 1 ≤ x ∧ x ≤ 1000000) (hw : 0 ≤ w ∧ w ≤ 1000000) (hy : 1 ≤ y ∧ y ≤ 1000000) :
    (0 ≤ std.quo (y * x) (w + x) ∧ std.quo (y * x) (w + x) ≤ y) ∧ (0 ≤ y * x ∧ y * x ≤ 1000000000000) ∧ std.quo (y * x) (w + x) * (w + x) ≤ y * x ∧
    ((w + x) * (x + std.quo (y * x) (w + x)) ≤ (w + (x + y)) * x ∧ 0 ≤ (w + x) * (x + std.quo (y * x) (w + x)) ∧ (w + (x + y)) * x ≤ 3000000000000) := by
  have h1 := mul_le_in (a := y) (b := x) (A := 1000000) (B := 1000000) ⟨by omega, hy.2⟩ ⟨by omega, hx.2⟩
  have h2 := quo_pos h1.1 (show 0 < w + x by omega)
  have h3 := quo_mul h1.1 (show 0 < w + x by omega)
  have h4 : std.quo (y * x) (w + x) < y + 1 := by
    refine quo_less h1.1 (by omega) ?_
    have e1 : (y + 1) * (w + x) = y * w + y * x + (w + x) := by rw [Int.add_mul, Int.mul_add, Int.one_mul]
    have e2 := Int.mul_nonneg (show 0 ≤ y by omega) hw.1
    omega
  generalize std.quo (y * x) (w + x) = n at h2 h3 h4
  have h5 := mul_le_in (a := w + x) (b := x + n) (A := 2000000) (B := 2000000) ⟨by omega, by omega⟩ ⟨by omega, by omega⟩
  have h6 := mul_le_in (a := w + (x + y)) (b := x) (A := 3000000) (B := 1000000) ⟨by omega, by omega⟩ ⟨by omega, by omega⟩
  have e3 : (w + x) * (x + n) = (w + x) * x + n * (w + x) := by rw [Int.mul_add, Int.mul_comm (w + x) n]
  have e4 : (w + (x + y)) * x = (w + x) * x + y * x := by rw [← Int.add_assoc w x y, Int.add_mul]
  exact ⟨⟨h2, by omega⟩, ⟨h1.1, by omega⟩, h3, by omega, h5.1, by omega⟩
/-- Redeemed out of a pool Q of A shares: no more than b, and the rate rises. -/
theorem rnd2 {n Q A b : Int} (hn : 0 ≤ n ∧ n ≤ A) (hQ : 0 ≤ Q ∧ Q ≤ 4000000) (hA : 0 < A ∧ A ≤ 4000000) (h : n * Q ≤ b * A) :
    (0 ≤ n * Q ∧ n * Q ≤ 16000000000000) ∧ (0 ≤ std.quo (n * Q) A ∧ std.quo (n * Q) A ≤ b) ∧ std.quo (n * Q) A * A ≤ n * Q := by
  have h1 := mul_le_in (a := n) (b := Q) (A := 4000000) (B := 4000000) ⟨hn.1, by omega⟩ hQ
  have h2 := quo_pos h1.1 hA.1
  have h3 := quo_mul h1.1 hA.1
  have h4 : std.quo (n * Q) A < b + 1 := by
    refine quo_less h1.1 hA.1 ?_
    have e1 : (b + 1) * A = b * A + A := by rw [Int.add_mul, Int.one_mul]
    omega
  exact ⟨⟨h1.1, by omega⟩, ⟨h2, by omega⟩, h3⟩
theorem rnd3 {n Q A m : Int} (h : m * A ≤ n * Q) : Q * (A - n) ≤ (Q - m) * A := by
  have e1 : Q * (A - n) = Q * A - n * Q := by rw [Int.mul_sub, Int.mul_comm Q n]
  have e2 : (Q - m) * A = Q * A - m * A := Int.sub_mul Q m A
  omega
/-- Without a third's mint between. -/
theorem rnd4 {x w y n : Int} (hx : 1 ≤ x ∧ x ≤ 1000000) (hw : 0 ≤ w ∧ w ≤ 1000000) (hy : 1 ≤ y ∧ y ≤ 1000000) (hn : 0 ≤ n ∧ n ≤ y) (h : n * (w + x) ≤ y * x) :
    (0 ≤ n * (w + (x + y)) ∧ n * (w + (x + y)) ≤ 16000000000000) ∧ (0 ≤ std.quo (n * (w + (x + y))) (x + n) ∧ std.quo (n * (w + (x + y))) (x + n) ≤ y) ∧
    (w + (x + y)) * (x + n - n) ≤ (w + (x + y - std.quo (n * (w + (x + y))) (x + n))) * (x + n) ∧ 0 ≤ (w + (x + y)) * (x + n - n) ∧ (w + (x + y - std.quo (n * (w + (x + y))) (x + n))) * (x + n) ≤ 16000000000000 := by
  have e1 : n * (w + (x + y)) = n * (w + x) + n * y := by rw [← Int.add_assoc w x y, Int.mul_add]
  have e2 : y * (x + n) = y * x + y * n := Int.mul_add y x n
  have e3 : y * n = n * y := Int.mul_comm y n
  have hf := rnd2 (n := n) (Q := w + (x + y)) (A := x + n) (b := y) ⟨hn.1, by omega⟩ ⟨by omega, by omega⟩ ⟨by omega, by omega⟩ (by omega)
  have h3 := rnd3 hf.2.2
  generalize std.quo (n * (w + (x + y))) (x + n) = m at hf h3
  have e4 : w + (x + y) - m = w + (x + y - m) := by omega
  rw [e4] at h3
  have h5 := mul_le_in (a := w + (x + y)) (b := x + n - n) (A := 4000000) (B := 4000000) ⟨by omega, by omega⟩ ⟨by omega, by omega⟩
  have h6 := mul_le_in (a := w + (x + y - m)) (b := x + n) (A := 4000000) (B := 4000000) ⟨by omega, by omega⟩ ⟨by omega, by omega⟩
  exact ⟨hf.1, hf.2.1, h3, h5.1, by omega⟩
/-- With a third's mint between. -/
theorem rnd5 {x w y n k : Int} (hx : 1 ≤ x ∧ x ≤ 1000000) (hw : 0 ≤ w ∧ w ≤ 1000000) (hy : 1 ≤ y ∧ y ≤ 1000000) (hn : 0 ≤ n ∧ n ≤ y) (hk : 0 ≤ k ∧ k ≤ 500) :
    (0 ≤ k * (x + n) ∧ k * (x + n) ≤ 1000000000) ∧ 0 ≤ std.quo (k * (x + n)) (w + (x + y)) ∧ std.quo (k * (x + n)) (w + (x + y)) ≤ k := by
  have h1 := mul_le_in (a := k) (b := x + n) (A := 500) (B := 2000000) hk ⟨by omega, by omega⟩
  have h2 := quo_pos h1.1 (show 0 < w + (x + y) by omega)
  have h4 : std.quo (k * (x + n)) (w + (x + y)) < k + 1 := by
    refine quo_less h1.1 (by omega) ?_
    have e1 : (k + 1) * (w + (x + y)) = k * (w + (x + y)) + (w + (x + y)) := by rw [Int.add_mul, Int.one_mul]
    have e2 := Int.mul_le_mul_of_nonneg_left (show x + n ≤ w + (x + y) by omega) hk.1
    omega
  exact ⟨⟨h1.1, by omega⟩, h2, by omega⟩
theorem rnd6 {x w y n k n2 : Int} (hx : 1 ≤ x ∧ x ≤ 1000000) (hw : 0 ≤ w ∧ w ≤ 1000000) (hy : 1 ≤ y ∧ y ≤ 1000000) (hn : 0 ≤ n ∧ n ≤ y) (hk : 0 ≤ k ∧ k ≤ 500) (h2 : 0 ≤ n2 ∧ n2 ≤ k) (h : n * (w + x) ≤ y * x) :
    (0 ≤ n * (w + (x + y + k)) ∧ n * (w + (x + y + k)) ≤ 16000000000000) ∧ (0 ≤ std.quo (n * (w + (x + y + k))) (x + n + n2) ∧ std.quo (n * (w + (x + y + k))) (x + n + n2) ≤ y + k) ∧
    (w + (x + y + k)) * (x + n + n2 - n) ≤ (w + (x + y + k - std.quo (n * (w + (x + y + k))) (x + n + n2))) * (x + n + n2) ∧ 0 ≤ (w + (x + y + k)) * (x + n + n2 - n) ∧ (w + (x + y + k - std.quo (n * (w + (x + y + k))) (x + n + n2))) * (x + n + n2) ≤ 16000000000000 := by
  have e1 : n * (w + (x + y + k)) = n * (w + x) + n * y + n * k := by
    rw [show w + (x + y + k) = (w + x) + y + k by omega, Int.mul_add, Int.mul_add]
  have e2 : (y + k) * (x + n + n2) = y * x + y * n + (k * x + k * n) + (y + k) * n2 := by
    rw [Int.mul_add (y + k) (x + n) n2, Int.add_mul y k (x + n), Int.mul_add y x n, Int.mul_add k x n]
  have e3 : y * n = n * y := Int.mul_comm y n
  have e4 : k * n = n * k := Int.mul_comm k n
  have e5 := Int.mul_nonneg hk.1 (show 0 ≤ x by omega)
  have e6 := Int.mul_nonneg (show 0 ≤ y + k by omega) h2.1
  have hf := rnd2 (n := n) (Q := w + (x + y + k)) (A := x + n + n2) (b := y + k) ⟨hn.1, by omega⟩ ⟨by omega, by omega⟩ ⟨by omega, by omega⟩ (by omega)
  have h3 := rnd3 hf.2.2
  generalize std.quo (n * (w + (x + y + k))) (x + n + n2) = m at hf h3
  have e7 : w + (x + y + k) - m = w + (x + y + k - m) := by omega
  rw [e7] at h3
  have h5 := mul_le_in (a := w + (x + y + k)) (b := x + n + n2 - n) (A := 4000000) (B := 4000000) ⟨by omega, by omega⟩ ⟨by omega, by omega⟩
  have h6 := mul_le_in (a := w + (x + y + k - m)) (b := x + n + n2) (A := 4000000) (B := 4000000) ⟨by omega, by omega⟩ ⟨by omega, by omega⟩
  exact ⟨hf.1, hf.2.1, h3, h5.1, by omega⟩
theorem rnd_feq {m n : Int} (hm : 0 ≤ m ∧ m < 9007199254740992) (h : m = n) : std.feq (std.fof m) (std.fof n) = true := by
  subst h
  rw [feq_fof hm hm]
  exact beq_self_eq_true m
theorem rnd_fge {m : Int} (hm : 0 ≤ m ∧ m < 9007199254740992) : std.fge (std.fof m) 0 = true := by
  have h0 : std.fof 0 = 0 := fof_word (n := 0) (by omega)
  have := fge_fof (m := m) (n := 0) hm ⟨by omega, by omega⟩
  rw [h0] at this
  rw [this]
  exact decide_eq_true hm.1
set_option maxHeartbeats 8000000 in
theorem rnd_run (a b c d : Int) (ha : -9223372036854775808 ≤ a ∧ a ≤ 9223372036854775807) (hb : -9223372036854775808 ≤ b ∧ b ≤ 9223372036854775807) (hc : -9223372036854775808 ≤ c ∧ c ≤ 9223372036854775807) (hd : -9223372036854775808 ≤ d ∧ d ≤ 9223372036854775807) :
    lawV std Try.prog (rndCons std) (inCallF 60) 90 (fun _ => none) Try.f6 (bodyR Try.prog 6) [mk (.int .i64 a), mk (.int .i64 b), mk (.int .i64 c), mk (.int .i64 d)] H0 (fun v _ => v = .bool true) := by
  rw [rnd_vc]
  refine ⟨ha, fun x hx _ => ?_⟩
  simp only [Int.zero_add]
  repeat' first
    | (refine fintOk_fof ?_; omega)
    | exact hb
    | exact hc
    | exact hd
    | (intro h; simp only [beq_iff_eq] at h; exfalso; omega)
    | (intro h; simp only [beq_iff_eq] at h)
    | (intro h; simp only [beq_eq_false_iff_ne, ne_eq] at h)
    | (intro h; simp only [decide_eq_true_eq] at h)
    | (intro h; simp only [decide_eq_false_iff_not] at h)
    | (refine And.intro ?_ ?_)
    | (intro (w : Int) (hw : 0 ≤ w ∧ w ≤ 1000000) hw2)
    | (intro (y : Int) (hy : 1 ≤ y ∧ y ≤ 1000000) hy2
       have hn := rnd1 hx hw hy
       generalize std.quo (y * x) (w + x) = n at hn ⊢)
    | (intro (k : Int) (hk : 0 ≤ k ∧ k ≤ 500) hk2
       have h4 := rnd4 hx hw hy hn.1 hn.2.2.1
       have h5 := rnd5 hx hw hy hn.1 hk
       generalize std.quo (k * (x + n)) (w + (x + y)) = n2 at h5 ⊢
       have h6 := rnd6 hx hw hy hn.1 hk h5.2 hn.2.2.1
       generalize std.quo (n * (w + (x + y + k))) (x + n + n2) = m1 at h6 ⊢
       generalize std.quo (n * (w + (x + y))) (x + n) = m0 at h4 ⊢)
    | (intro h)
  all_goals first
    | exact trivial
    | rfl
    | omega
    | (refine decide_eq_true ?_; omega)
    | (refine decide_eq_false ?_; omega)
    | (refine beq_eq_false_iff_ne.2 ?_; omega)
    | (exact beq_self_eq_true _)
    | (refine rnd_feq ?_ ?_ <;> omega)
    | (rw [Bool.and_eq_true]; refine And.intro ?_ ?_ <;> (refine rnd_feq ?_ ?_ <;> omega))
    | (refine rnd_fge ?_; omega)
    | ((repeat rw [fint_fof]) <;> omega)
    | ((refine decide_eq_true ?_; repeat rw [fint_fof]) <;> omega)
theorem rateRound_body : Try.f6.body = some (bodyR Try.prog 6) := by kernel_rfl
theorem rateRound_calls (a0 a1 a2 a3 : Int) (h0 : -9223372036854775808 ≤ a0 ∧ a0 ≤ 9223372036854775807) (h1 : -9223372036854775808 ≤ a1 ∧ a1 ≤ 9223372036854775807) (h2 : -9223372036854775808 ≤ a2 ∧ a2 ≤ 9223372036854775807) (h3 : -9223372036854775808 ≤ a3 ∧ a3 ≤ 9223372036854775807) (w : World) :
    Calls Try.prog 6 #[.int .i64 a0, .int .i64 a1, .int .i64 a2, .int .i64 a3] w fun e w' => Below w.heap.size w w' ∧ e = .returned (.bool true) :=
  law_callsF Try.progOk (rateCons_ok rndTell) (inCallF_ok 60) Try.func6 rateRound_body (args := [mk (.int .i64 a0), mk (.int .i64 a1), mk (.int .i64 a2), mk (.int .i64 a3)]) (h0 := H0) (fun b x h => by unfold H0 Hp.get at h; simp at h) (rnd_run a0 a1 a2 a3 h0 h1 h2 h3) (μ := MuN)
    (All2.cons (.zero (.mark (.plain rfl) rfl)) (All2.cons (.zero (.mark (.plain rfl) rfl)) (All2.cons (.zero (.mark (.plain rfl) rfl)) (All2.cons (.zero (.mark (.plain rfl) rfl)) All2.nil)))) (rel_none _ (Nat.le_refl _)) (fun _ _ => rfl)
set_option maxRecDepth 100000 in
theorem rateRound_lifted (os : Os) (started : os.Started) (H : Type) (enc : TypeId × Value → H) :
    ReturnsInHanded {} Try.checked os 6 .any (Rows.rateRoundSpec.pre6 enc Try.prog Try.f6 Rows.rateRoundRow.domain false) (Rows.rateRoundSpec.post enc Try.prog Try.f6 false true false false) := by
  refine returnsInHanded_of_change (C := Try.checked) Try.own started (by kernel_rfl) Try.func6
    (ChangeSpec.witness6 (enc := enc) (C := Try.checked) false ⟨#[], #[.int .i64 0, .int .i64 0, .int .i64 0, .int .i64 0], []⟩ 8 (by kernel_rfl) (by kernel_rfl) (by kernel_rfl) (by kernel_rfl)) ?_
  intro W base args ds gs before hval0 hW hcnd _
  have hval : ∀ (j : Nat) t v, Try.f6.params[j]? = some t → args[j]? = some v → Value.okWide Try.prog W .any base t v := hval0
  have hW' := hW
  obtain ⟨p, q, hA0, hV, rfl, hfz, hnd⟩ := hW
  have hA : DataW.TrodAll enc Try.prog W 0 (fun _ => true) true Try.f6.params.toList args.toList ds p := hA0
  rw [Try.params6] at hA hval
  obtain ⟨v0, v1, v2, v3, d0, d1, d2, d3, p0, p1, p2, p3, rfl, rfl, rfl, h0, h1, h2, h3⟩ := trodAll_four hA
  obtain ⟨rfl, rfl⟩ := trodVars_none hV
  obtain ⟨a0, rfl, rfl, rfl, wa0⟩ := open_int Try.underlying3 (hval 0 3 v0 rfl rfl) h0
  obtain ⟨a1, rfl, rfl, rfl, wa1⟩ := open_int Try.underlying3 (hval 1 3 v1 rfl rfl) h1
  obtain ⟨a2, rfl, rfl, rfl, wa2⟩ := open_int Try.underlying3 (hval 2 3 v2 rfl rfl) h2
  obtain ⟨a3, rfl, rfl, rfl, wa3⟩ := open_int Try.underlying3 (hval 3 3 v3 rfl rfl) h3
  clear hA0 hval0
  simp only [List.append_nil] at hW'
  refine (rateRound_calls a0 a1 a2 a3 (i64_range wa0) (i64_range wa1) (i64_range wa2) (i64_range wa3) W).mono fun e W' ⟨hb, he⟩ => ?_
  subst he
  exact ⟨_, rfl, post_below (pa := []) (pv := []) hW' (fun _ _ _ => trodAll_mk1 (shut_bool Try.underlying4 true)) (fun sp _ => trodAll_mk4 (shut_int Try.underlying3 wa0) (shut_int Try.underlying3 wa1) (shut_int Try.underlying3 wa2) (shut_int Try.underlying3 wa3)) (fun _ _ => rfl) rfl hb (ok_one (by kernel_rfl) rfl (okWide_bool_mk Try.underlying4 true))⟩

theorem rateRound_holds : Rows.RateRoundSaid :=
  OpenClaim.holds_of_wide 6 Try.f6 rfl rfl rfl rfl rfl rfl rfl ⟨rfl, rfl, rfl, rfl, rfl⟩ rfl rfl rfl rfl rfl (by kernel_rfl) Try.func6 (by kernel_rfl)
    (of_decide_eq_true (by kernel_rfl)) (by unfold Func.isWrapper; first | (rw [if_pos (by decide +kernel)]; kernel_rfl) | (rw [if_neg (by decide +kernel)]; exact ⟨rfl, rfl⟩))
    (fun os started H enc _ => rateRound_lifted os started H enc)
end Go.Proofs.Ytddejgkfgnokgaa
