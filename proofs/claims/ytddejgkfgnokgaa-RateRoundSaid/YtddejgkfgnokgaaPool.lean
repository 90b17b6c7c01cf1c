/-
  The ledger's pool: a contract for calls inside regions whose order is open. Contracts that all laws of rates use.
-/
import Derived.Test.YtddejgkfgnokgaaPoolV
import Derived.Test.YtddejgkfgnokgaaAbs45
import Derived.Test.YtddejgkfgnokgaaRRuns
namespace Go.Proofs.Ytddejgkfgnokgaa
open Go.ChangeShapes Go.WideShapes Go.ChangeAt Go.RowKit Go.Abs

theorem pool_body : Try.f26.body = some (bodyR Try.prog 26) := by kernel_rfl
theorem pool_run (x y : Int) (h : -9223372036854775808 ≤ x + y ∧ x + y ≤ 9223372036854775807) : lawV std Try.prog noCon (inCallF 60) 90 (fun _ => none) Try.f26 (bodyR Try.prog 26) [.pointer (some ⟨0, 0, none⟩)] (inH [some (.cells [mk (.int .i64 x), mk (.int .i64 y)] true)]) (fun v _ => den v = .int .i64 (std.add x y)) := by
  rw [pool_vc]
  exact ⟨h, rfl⟩
theorem vr1_int {μ : Mu} {a v : Value} {x : Int} (h : VR1 μ a v) (hd : den a = .int .i64 x) : v = .int .i64 x := by
  have h2 : VR μ a v := .a (.one h)
  have h3 := h2.den
  rw [hd] at h3
  exact h3.inv_int
theorem pool_sem {b o : Nat} {h : Hp} {vs : List Value} {ro : Bool} {a c : Value} {x y : Int} (hb : h.get b = some (.cells vs ro)) (ha : vs[o]? = some a) (hc : vs[o + 1]? = some c) (hx : den a = .int .i64 x) (hy : den c = .int .i64 y)
    (hr : -9223372036854775808 ≤ x + y ∧ x + y ≤ 9223372036854775807) {v : Value} (hv : ∀ μ, VR μ v (.int .i64 (x + y))) {K : Value → Hp → Prop} (hK : K v h) : FunSem Try.prog 26 [.pointer (some ⟨b, o, none⟩)] h K := by
  refine ⟨v, h, hK, Nat.le_refl _, fun {μ base w args'} hl hrel _ => ?_⟩
  obtain ⟨v1, l1, e1, r1, hl⟩ := hl.inv_cons
  have e2 := hl.inv_nil
  subst e2
  obtain ⟨p, hp, rfl⟩ := r1.inv_ptr
  have : args' = #[.pointer (some ⟨p.c, o + p.s, none⟩)] := Array.toList_inj.1 e1
  subst this
  refine .inr ⟨enters_name Try.func26 pool_body _ w, ?_⟩
  obtain ⟨arr, e, fr, g1, g2, g3, _⟩ := hrel.blk b p _ hp hb
  have hok : InOk w.heap.size w ((⟨p.c, o + p.s, p.N⟩ : Pl), some (.cells [mk (.int .i64 x), mk (.int .i64 y)] true)) := by
    intro z hz
    simp only [Option.some.injEq] at hz
    subst hz
    refine ⟨rfl, fun μ' => ⟨arr, e, fr, g1, g2, fun i u hu => ?_, fun hro => by cases hro⟩⟩
    have cell : ∀ {j : Nat} {q : Value} {n : Int}, vs[o + j]? = some q → den q = .int .i64 n → ∃ v', arr[o + p.s + j]? = some v' ∧ VR1 μ' (mk (.int .i64 n)) v' := by
      intro j q n h1 h2
      obtain ⟨v', h3, h4⟩ := g3 _ _ h1
      refine ⟨v', ?_, ?_⟩
      · rw [← h3]; congr 1; show o + p.s + j = p.s + (o + j); omega
      · rw [vr1_int h4 h2]; exact .zero (.mark (.plain rfl) rfl)
    match i, hu with
    | 0, hu => simp at hu; subst hu; exact cell (j := 0) ha hx
    | 1, hu => simp at hu; subst hu; exact cell (j := 1) hc hy
  have hall : ∀ z ∈ [((⟨p.c, o + p.s, p.N⟩ : Pl), some (Blk.cells [mk (.int .i64 x), mk (.int .i64 y)] true))], InOk w.heap.size w z := fun z hz => by
    rw [List.mem_singleton.1 hz]; exact hok
  have hv0 : VR0 (inMu [((⟨p.c, o + p.s, p.N⟩ : Pl), some (Blk.cells [mk (.int .i64 x), mk (.int .i64 y)] true))]) (.pointer (some ⟨0, 0, none⟩)) (.pointer (some ⟨p.c, 0 + (o + p.s), none⟩)) := VR0.ptr (p := ⟨p.c, o + p.s, p.N⟩) rfl
  rw [Nat.zero_add] at hv0
  refine (law_val Try.progOk (noCon_ok _) (inCallF_ok 60) Try.func26 pool_body (u := .int .i64 (x + y)) rfl (args := [.pointer (some ⟨0, 0, none⟩)]) (h0 := inH [some (.cells [mk (.int .i64 x), mk (.int .i64 y)] true)]) (in_ro hall) (pool_run x y hr)
    (μ := inMu [((⟨p.c, o + p.s, p.N⟩ : Pl), some (Blk.cells [mk (.int .i64 x), mk (.int .i64 y)] true))]) (All2.cons (.zero hv0) All2.nil) (in_rel (Nat.le_refl _) hall) (in_free [((⟨p.c, o + p.s, p.N⟩ : Pl), some (Blk.cells [mk (.int .i64 x), mk (.int .i64 y)] true))])).mono ?_
  rintro en w' ⟨hbel, rfl⟩
  exact ⟨_, rfl, μ, .same (hv μ) (sim_same hrel hbel) rfl (.refl μ _)⟩
theorem poolD_ok : ∀ args h K, poolD std args h K → FunSem Try.prog 26 args h K := by
  intro args h K e
  unfold poolD at e
  split at e
  case h_2 => exact e.elim
  rename_i b o
  split at e
  case h_2 => exact e.elim
  rename_i vs ro hb
  split at e
  case h_2 => exact e.elim
  rename_i a c ha hc
  split at e
  case h_2 => exact e.elim
  rename_i x y hx hy
  split at e
  · obtain ⟨hr, hK⟩ := e
    exact pool_sem hb ha hc hx hy hr (v := mk (.int .i64 (x + y))) (fun μ => .zero (.mark (.plain rfl) rfl)) hK
  · split at e
    case isFalse => exact e.elim
    rename_i hr
    exact pool_sem hb ha hc hx hy hr (v := .int .i64 (x + y)) (fun μ => .plain1 rfl) e

theorem rateRunsC_ok : ∀ args h K, closedC (.bool true) args h K → CallSem Try.prog 3 args h K := by
  intro args h K e μ base w args' hl hrel hfree
  unfold closedC at e
  split at e
  case h_2 => exact e.elim
  have : args' = #[] := Array.toList_eq_nil_iff.1 hl.inv_nil
  subst this
  have hn := Try.progOk.name Try.func3
  have hb := rateRuns_body
  refine .inr ⟨by simp [callFunc, Try.func3, hn, hb], ?_⟩
  refine (rateRuns_calls w).mono ?_
  rintro en w' ⟨h1, rfl⟩
  exact ⟨.bool true, rfl, .bool true, h, μ, e, cout_below hrel hfree h1 (.plain1 rfl)⟩
noncomputable def rateCons (S : Sy) (l : List (Nat × BinOp × Bool)) : Con := ((conL [(16, withinC S), (3, closedC (.bool true)), (27, sortedTC)]).tell l).draw [(26, poolD S)]
theorem rateCons_ok (l : List (Nat × BinOp × Bool)) : ConOk Try.prog (rateCons std l) := by
  refine draw_ok (tell_ok (conL_ok fun x hx => ?_) l) fun x hx => ?_
  · simp only [List.mem_cons, List.not_mem_nil, or_false] at hx
    rcases hx with rfl | rfl | rfl
    · exact withinC_ok
    · exact rateRunsC_ok
    · exact sortedTC_ok
  · simp only [List.mem_cons, List.not_mem_nil, or_false] at hx
    subst hx
    exact poolD_ok
end Go.Proofs.Ytddejgkfgnokgaa
