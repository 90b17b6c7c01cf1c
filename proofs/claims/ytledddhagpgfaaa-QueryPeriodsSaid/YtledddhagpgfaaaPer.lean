/-
  QueryPeriods: the program's law is true for all numbers, and what was there stays as it was. No conditions.
-/
import Derived.Test.YtledddhagpgfaaaPerV
import Derived.Test.YtledddhagpgfaaaShut
namespace Go.Proofs.Ytledddhagpgfaaa
open Go.ChangeShapes Go.WideShapes Go.ChangeAt Go.RowKit Go.Abs

theorem dvd_at {s x y : Int} (h : s ∣ x) (e : x = y) : s ∣ y := e ▸ h
theorem rem_facts {s a b : Int} (hd : s ∣ a) (h1 : a ≤ b) : (b = a + s → Int.tmod b s = 0) ∧ (b < a + s → a < b → Int.tmod b s ≠ 0) := by
  refine ⟨fun e => ?_, fun e e2 h => ?_⟩
  · subst e
    exact Int.tmod_eq_zero_of_dvd (Int.dvd_add hd (Int.dvd_refl s))
  · have h3 : s ∣ b - a := Int.dvd_sub (Int.dvd_of_tmod_eq_zero h) hd
    have := Int.le_of_dvd (by omega) h3
    omega

def perA0 (p d k step b blk late : Int) : Prop :=
  (0 ≤ p ∧ p ≤ 9) ∧ (1 ≤ d ∧ d ≤ 9) ∧ (1 ≤ k ∧ k ≤ 50) ∧ (1 ≤ b ∧ b ≤ k + 1) ∧ blk = b - 1 ∧ (0 ≤ late ∧ late ≤ b) ∧ ((p < d + 1 ∧ step = d + 1) ∨ (d + 1 ≤ p ∧ step = p))
def perC0 (p d step b due un : Int) : Prop :=
  (b = 1 ∧ due = 1 ∧ un = 0) ∨ (1 < b ∧ p = 0 ∧ due = 0 ∧ ((un = 0 ∧ 1 + d < b - 1) ∨ (un = 1 + d ∧ b - 1 ≤ 1 + d))) ∨
  (1 < b ∧ 0 < p ∧ 1 ≤ due - p ∧ due - p ≤ b - 1 ∧ b - (due - p) ≤ step ∧ ((un = 0 ∧ due - p + d < b - 1) ∨ (un = due - p + d ∧ b - 1 ≤ due - p + d)))
def perA1 (p d k step b blk late un : Int) : Prop :=
  (0 ≤ p ∧ p ≤ 9) ∧ (1 ≤ d ∧ d ≤ 9) ∧ (1 ≤ k ∧ k ≤ 50) ∧ (1 ≤ b ∧ b ≤ k + 1) ∧ blk = b - 1 ∧ late = 0 ∧ step = p ∧ un = 0
def perC1 (p step b due : Int) : Prop :=
  (b = 1 ∧ due = 1) ∨ (1 < b ∧ p = 0 ∧ due = 0) ∨ (1 < b ∧ 0 < p ∧ 1 ≤ due - p ∧ due - p ≤ b - 1 ∧ b - (due - p) ≤ step)
structure PerI0 (x : Per) : Prop where
  a : perA0 x.p x.d x.k x.step x.b x.blk x.late
  c : perC0 x.p x.d x.step x.b x.due x.un
  dv : 1 < x.b → 0 < x.p → x.step ∣ x.due - x.p - 1
structure PerI1 (x : Per) : Prop where
  a : perA1 x.p x.d x.k x.step x.b x.blk x.late x.un
  c : perC1 x.p x.step x.b x.due
  dv : 1 < x.b → 0 < x.p → x.step ∣ x.due - x.p - 1
def perM (x : Per) : Nat := (x.k + 1 - x.b).toNat
theorem per_w {p step b due : Int} (hD : 1 < b → 0 < p → step ∣ due - p - 1) (h : 1 < b → 0 < p → due - p ≤ b - 1) :
    (std.rem (b - 1) step = 0 → step ∣ b - 1) ∧ (b = 1 → std.rem (b - 1) step = 0) ∧ (1 < b → 0 < p → b - (due - p) ≤ step → (b - (due - p) = step ∧ std.rem (b - 1) step = 0) ∨ (b - (due - p) < step ∧ std.rem (b - 1) step ≠ 0)) := by
  refine ⟨Int.dvd_of_tmod_eq_zero, fun e => ?_, fun h1 h2 h3 => ?_⟩
  · subst e; exact Int.zero_tmod _
  · have h4 := rem_facts (b := b - 1) (hD h1 h2) (by have := h h1 h2; omega)
    by_cases h5 : b - (due - p) = step
    · exact .inl ⟨h5, h4.1 (by omega)⟩
    · exact .inr ⟨by omega, h4.2 (by omega) (by have := h h1 h2; omega)⟩
def perW1 (p step b due w : Int) : Prop :=
  (b = 1 ∧ due = 1 ∧ w = 0) ∨ (1 < b ∧ p = 0 ∧ due = 0) ∨ (1 < b ∧ 0 < p ∧ 1 ≤ due - p ∧ due - p ≤ b - 1 ∧ ((b - (due - p) = step ∧ w = 0) ∨ (b - (due - p) < step ∧ w ≠ 0)))
def perW0 (p d step b due un w : Int) : Prop :=
  (b = 1 ∧ due = 1 ∧ un = 0 ∧ w = 0) ∨ (1 < b ∧ p = 0 ∧ due = 0 ∧ ((un = 0 ∧ 1 + d < b - 1) ∨ (un = 1 + d ∧ b - 1 ≤ 1 + d))) ∨
  (1 < b ∧ 0 < p ∧ 1 ≤ due - p ∧ due - p ≤ b - 1 ∧ ((un = 0 ∧ due - p + d < b - 1) ∨ (un = due - p + d ∧ b - 1 ≤ due - p + d)) ∧ ((b - (due - p) = step ∧ w = 0) ∨ (b - (due - p) < step ∧ w ≠ 0)))
theorem per0_facts {p d k step b blk late due un : Int} (hI : PerI0 ⟨p, d, k, step, b, blk, late, due, un⟩) :
    perA0 p d k step b blk late ∧ (1 < b → 0 < p → step ∣ due - p - 1) ∧ (std.rem (b - 1) step = 0 → step ∣ b - 1) ∧ perW0 p d step b due un (std.rem (b - 1) step) := by
  obtain ⟨a, c, dv⟩ := hI
  have c : perC0 p d step b due un := c
  have h := per_w (p := p) (step := step) (b := b) (due := due) dv (fun h1 h2 => by rcases c with ⟨_, _⟩ | ⟨_, _, _⟩ | ⟨_, _, _, _, _⟩ <;> omega)
  refine ⟨a, dv, h.1, ?_⟩
  rcases c with ⟨h1, h2, h3⟩ | ⟨h1, h2, h3, h4⟩ | ⟨h1, h2, h3, h4, h5, h6⟩
  · exact .inl ⟨h1, h2, h3, h.2.1 h1⟩
  · exact .inr (.inl ⟨h1, h2, h3, h4⟩)
  · exact .inr (.inr ⟨h1, h2, h3, h4, h6, h.2.2 h1 h2 h5⟩)
theorem per1_facts {p d k step b blk late due un : Int} (hI : PerI1 ⟨p, d, k, step, b, blk, late, due, un⟩) :
    perA1 p d k step b blk late un ∧ (1 < b → 0 < p → step ∣ due - p - 1) ∧ (std.rem (b - 1) step = 0 → step ∣ b - 1) ∧ perW1 p step b due (std.rem (b - 1) step) := by
  obtain ⟨a, c, dv⟩ := hI
  have c : perC1 p step b due := c
  have h := per_w (p := p) (step := step) (b := b) (due := due) dv (fun h1 h2 => by rcases c with ⟨_, _⟩ | ⟨_, _, _⟩ | ⟨_, _, _, _, _⟩ <;> omega)
  refine ⟨a, dv, h.1, ?_⟩
  rcases c with ⟨h1, h2⟩ | ⟨h1, h2, h3⟩ | ⟨h1, h2, h3, h4, h5⟩
  · exact .inl ⟨h1, h2, h.2.1 h1⟩
  · exact .inr (.inl ⟨h1, h2, h3⟩)
  · exact .inr (.inr ⟨h1, h2, h3, h4, h.2.2 h1 h2 h5⟩)

set_option maxHeartbeats 8000000 in
theorem per1_run (p0 d0 n0 : Int) (hp : -9223372036854775808 ≤ p0 ∧ p0 ≤ 9223372036854775807) (hd : -9223372036854775808 ≤ d0 ∧ d0 ≤ 9223372036854775807) (hn : -9223372036854775808 ≤ n0 ∧ n0 ≤ 9223372036854775807) :
    lawV std Try.prog (shutCons std) (inCallF 60) 90 (perL true PerI1 perM) Try.f5 (bodyOf Try.prog 5) [mk (.int .i64 p0), mk (.int .i64 d0), mk (.int .i64 n0), .bool true] H0 (fun v _ => v = .bool true) := by
  rw [per1_vc]
  repeat' first
    | (intro (d : Per)
       obtain ⟨p, d, k, step, b, blk, late, due, un⟩ := d
       intro hI
       obtain ⟨hA, hD0, hDw, hW⟩ := per1_facts hI
       clear hI
       dsimp only [perA1, perW1] at hA hW ⊢
       generalize std.rem (b - 1) step = w at hDw hW ⊢)
    | (refine Exists.intro (Per.mk _ _ _ _ _ _ _ _ _) (And.intro rfl ?_))
    | (refine And.intro ?_ ?_)
    | (intro h; simp only [decide_eq_true_eq, decide_eq_false_iff_not, beq_iff_eq, beq_eq_false_iff_ne, ne_eq] at h)
    | (intro h)
  all_goals first
    | rfl
    | omega
    | (change perM _ < perM _; dsimp only [perM]; omega)
    | (refine PerI1.mk ?_ ?_ ?_
       · dsimp only [perA1]; omega
       · dsimp only [perC1]; omega
       · dsimp only
         intro g1 g2
         first
           | exact dvd_at (hDw (by omega)) (by omega)
           | exact dvd_at (hD0 (by omega) (by omega)) (by omega)
           | (exfalso; omega))
    | (exfalso; omega)
    | skip

set_option maxHeartbeats 8000000 in
theorem per0_run (p0 d0 n0 : Int) (hp : -9223372036854775808 ≤ p0 ∧ p0 ≤ 9223372036854775807) (hd : -9223372036854775808 ≤ d0 ∧ d0 ≤ 9223372036854775807) (hn : -9223372036854775808 ≤ n0 ∧ n0 ≤ 9223372036854775807) :
    lawV std Try.prog (shutCons std) (inCallF 60) 90 (perL false PerI0 perM) Try.f5 (bodyOf Try.prog 5) [mk (.int .i64 p0), mk (.int .i64 d0), mk (.int .i64 n0), .bool false] H0 (fun v _ => v = .bool true) := by
  rw [per0_vc]
  repeat' first
    | (intro (d : Per)
       obtain ⟨p, d, k, step, b, blk, late, due, un⟩ := d
       intro hI
       obtain ⟨hA, hD0, hDw, hW⟩ := per0_facts hI
       clear hI
       dsimp only [perA0, perW0] at hA hW ⊢
       generalize std.rem (b - 1) step = w at hDw hW ⊢)
    | (refine Exists.intro (Per.mk _ _ _ _ _ _ _ _ _) (And.intro rfl ?_))
    | (refine And.intro ?_ ?_)
    | (intro h; simp only [decide_eq_true_eq, decide_eq_false_iff_not, beq_iff_eq, beq_eq_false_iff_ne, ne_eq] at h)
    | (intro h)
  all_goals first
    | rfl
    | omega
    | (change perM _ < perM _; dsimp only [perM]; omega)
    | (refine PerI0.mk ?_ ?_ ?_
       · dsimp only [perA0]; omega
       · dsimp only [perC0]; omega
       · dsimp only
         intro g1 g2
         first
           | exact dvd_at (hDw (by omega)) (by omega)
           | exact dvd_at (hD0 (by omega) (by omega)) (by omega)
           | (exfalso; omega))
    | (exfalso; omega)
    | skip

theorem queryPeriods_body : Try.f5.body = some (bodyOf Try.prog 5) := by kernel_rfl
theorem queryPeriods_calls (a0 a1 a2 : Int) (a3 : Bool) (h0 : -9223372036854775808 ≤ a0 ∧ a0 ≤ 9223372036854775807) (h1 : -9223372036854775808 ≤ a1 ∧ a1 ≤ 9223372036854775807) (h2 : -9223372036854775808 ≤ a2 ∧ a2 ≤ 9223372036854775807) (w : World) :
    Calls Try.prog 5 #[.int .i64 a0, .int .i64 a1, .int .i64 a2, .bool a3] w fun e w' => Below w.heap.size w w' ∧ e = .returned (.bool true) := by
  cases a3 with
  | true => exact law_callsF Try.progOk shutCons_ok (inCallF_ok 60) Try.func5 queryPeriods_body (args := [mk (.int .i64 a0), mk (.int .i64 a1), mk (.int .i64 a2), .bool true]) (h0 := H0) (fun b x h => by unfold H0 Hp.get at h; simp at h) (per1_run a0 a1 a2 h0 h1 h2) (μ := MuN) (All2.cons (.zero (.mark (.plain rfl) rfl)) (All2.cons (.zero (.mark (.plain rfl) rfl)) (All2.cons (.zero (.mark (.plain rfl) rfl)) (All2.cons (.plain1 rfl) All2.nil)))) (rel_none _ (Nat.le_refl _)) (fun _ _ => rfl)
  | false => exact law_callsF Try.progOk shutCons_ok (inCallF_ok 60) Try.func5 queryPeriods_body (args := [mk (.int .i64 a0), mk (.int .i64 a1), mk (.int .i64 a2), .bool false]) (h0 := H0) (fun b x h => by unfold H0 Hp.get at h; simp at h) (per0_run a0 a1 a2 h0 h1 h2) (μ := MuN) (All2.cons (.zero (.mark (.plain rfl) rfl)) (All2.cons (.zero (.mark (.plain rfl) rfl)) (All2.cons (.zero (.mark (.plain rfl) rfl)) (All2.cons (.plain1 rfl) All2.nil)))) (rel_none _ (Nat.le_refl _)) (fun _ _ => rfl)

set_option maxRecDepth 100000 in
theorem queryPeriods_lifted (os : Os) (started : os.Started) (H : Type) (enc : TypeId × Value → H) :
    ReturnsInHanded {} Try.checked os 5 .any (Rows.queryPeriodsSpec.pre6 enc Try.prog Try.f5 Rows.queryPeriodsRow.domain false) (Rows.queryPeriodsSpec.post enc Try.prog Try.f5 false true false false) := by
  refine returnsInHanded_of_change (C := Try.checked) Try.own started (by kernel_rfl) Try.func5
    (ChangeSpec.witness6 (enc := enc) (C := Try.checked) false ⟨#[], #[.int .i64 0, .int .i64 0, .int .i64 0, .bool false], []⟩ 8 (by kernel_rfl) (by kernel_rfl) (by kernel_rfl) (by kernel_rfl)) ?_
  intro W base args ds gs before hval0 hW hcnd _
  have hval : ∀ (j : Nat) t v, Try.f5.params[j]? = some t → args[j]? = some v → Value.okWide Try.prog W .any base t v := hval0
  have hW' := hW
  obtain ⟨p, q, hA0, hV, rfl, hfz, hnd⟩ := hW
  have hA : DataW.TrodAll enc Try.prog W 0 (fun _ => true) true Try.f5.params.toList args.toList ds p := hA0
  rw [Try.params5] at hA hval
  obtain ⟨v0, v1, v2, v3, d0, d1, d2, d3, p0, p1, p2, p3, rfl, rfl, rfl, h0, h1, h2, h3⟩ := trodAll_four hA
  obtain ⟨rfl, rfl⟩ := trodVars_none hV
  obtain ⟨a0, rfl, rfl, rfl, wa0⟩ := open_int Try.underlying3 (hval 0 3 v0 rfl rfl) h0
  obtain ⟨a1, rfl, rfl, rfl, wa1⟩ := open_int Try.underlying3 (hval 1 3 v1 rfl rfl) h1
  obtain ⟨a2, rfl, rfl, rfl, wa2⟩ := open_int Try.underlying3 (hval 2 3 v2 rfl rfl) h2
  obtain ⟨a3, rfl, rfl, rfl⟩ := open_bool Try.underlying4 (hval 3 4 v3 rfl rfl) h3
  clear hA0 hval0
  simp only [List.append_nil] at hW'
  refine (queryPeriods_calls a0 a1 a2 a3 (i64_range wa0) (i64_range wa1) (i64_range wa2) W).mono fun e W' ⟨hb, he⟩ => ?_
  subst he
  exact ⟨_, rfl, post_below (pa := []) (pv := []) hW' (fun _ _ _ => trodAll_mk1 (shut_bool Try.underlying4 true)) (fun sp _ => trodAll_mk4 (shut_int Try.underlying3 wa0) (shut_int Try.underlying3 wa1) (shut_int Try.underlying3 wa2) (shut_bool Try.underlying4 a3)) (fun _ _ => rfl) rfl hb (ok_one (by kernel_rfl) rfl (okWide_bool_mk Try.underlying4 true))⟩

theorem queryPeriods_holds : Rows.QueryPeriodsSaid :=
  OpenClaim.holds_of_wide 5 Try.f5 rfl rfl rfl rfl rfl rfl rfl ⟨rfl, rfl, rfl, rfl, rfl⟩ rfl rfl rfl rfl rfl (by kernel_rfl) Try.func5 (by kernel_rfl)
    (of_decide_eq_true (by kernel_rfl)) (by unfold Func.isWrapper; first | (rw [if_pos (by decide +kernel)]; kernel_rfl) | (rw [if_neg (by decide +kernel)]; exact ⟨rfl, rfl⟩))
    (fun os started H enc _ => queryPeriods_lifted os started H enc)
end Go.Proofs.Ytledddhagpgfaaa
