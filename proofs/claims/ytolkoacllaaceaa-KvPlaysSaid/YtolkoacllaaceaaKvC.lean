/-
  KV: the functions keep what is said of them.
-/
import Derived.Test.YtolkoacllaaceaaKvP
import Derived.Test.YtolkoacllaaceaaAbsQ
namespace Go.Proofs.Ytolkoacllaaceaa
open Go.RowKit Go.Abs Go
theorem cmpC_ok : ∀ args h K, cmpC cmpB args h K → CallSem Try.prog 37 args h K := by
  intro args h K e μ base w args' hl hrel hfree
  unfold cmpC at e
  split at e
  case h_2 => exact e.elim
  rename_i a b
  split at e
  case h_2 => exact e.elim
  rename_i x y hx hy
  obtain ⟨v1, l1, e1, r1, hl⟩ := hl.inv_cons
  obtain ⟨v2, l2, rfl, r2, hl⟩ := hl.inv_cons
  have := hl.inv_nil; subst this
  have r1 := r1.den; rw [hx] at r1
  have r2 := r2.den; rw [hy] at r2
  rw [r1.inv_string, r2.inv_string] at e1
  have : args' = #[.string x, .string y] := Array.toList_inj.1 e1
  subst this
  obtain ⟨v', w', μ', h1, h2⟩ := externA_run (P := Try.prog) (μ := μ) (base := base) (w := w) (fn := Try.f37) (args := [.string x, .string y]) (args' := #[.string x, .string y]) (v := goInt (Lib.compareBytes x.data.toList y.data.toList)) (h := h) (h' := h)
    rfl (All2.cons (.plain1 rfl) (All2.cons (.plain1 rfl) All2.nil)) hrel (fun h => by omega) Try.func37 rfl
  refine .inl ⟨v', w', h1, mk (.int .i64 (cmpB x y)), h, μ', e, ?_⟩
  have hv : v' = .int .i64 (cmpB x y) := h2.val.inv_int
  subst hv
  refine ⟨.zero (.mark (.plain rfl) rfl), h2.sim.rel, fun b hb => ?_, h2.sim.fr, h2.sim.own, fun i hi => ?_, Nat.le_refl _, h2.sim.le.z, h2.sim.fz⟩
  · by_cases e : μ' b = μ b
    · rw [e]; exact hfree b hb
    · have := h2.dom b e; omega
  · by_cases e : μ' i = μ i
    · exact e
    · have := h2.dom i e; omega
theorem bs_ok : PFOk Try.prog 31 (bsP std kvF) :=
  pf_ok Try.progOk (conL_ok fun x hx => by rw [List.mem_singleton.1 hx]; exact cmpC_ok) (inCallF_ok 60) (bsP std kvF) Try.func31 (show _ = some (bodyS Try.prog 31) by kernel_rfl) fun d hd => bs_run d.1 d.2.1 hd
theorem bsCon_ok : ConOk Try.prog (bsCon std kvF) := conL_ok fun x hx => by rw [List.mem_singleton.1 hx]; exact pcon_ok bs_ok
theorem may_ok : PFOk Try.prog 26 (mayP kvF) :=
  pf_ok (LS := fun _ => noL) Try.progOk (noCon_ok _) (inCallF_ok 60) (mayP kvF) Try.func26 (show _ = some (bodyS Try.prog 26) by kernel_rfl) fun d _ => may_run d.1.1 d.1.2.1
theorem rmay_ok : PFOk Try.prog 18 (rmayP kvF) :=
  pf_ok (LS := fun _ => noL) Try.progOk (noCon_ok _) (inCallF_ok 60) (rmayP kvF) Try.func18 (show _ = some (bodyS Try.prog 18) by kernel_rfl) fun d _ => rmay_run d.1.1 d.1.2.1
theorem right_ok : PFOk Try.prog 11 (rightP std kvF) :=
  pf_ok Try.progOk (draw_ok (noCon_ok _) fun x hx => by rw [List.mem_singleton.1 hx]; exact dcon_ok rfl may_ok) (inCallF_ok 60) (rightP std kvF) Try.func11 (show _ = some (bodyS Try.prog 11) by kernel_rfl) fun d hd => right_run d.1 hd
theorem rright_ok : PFOk Try.prog 24 (rrightP std kvF) :=
  pf_ok Try.progOk (draw_ok (noCon_ok _) fun x hx => by rw [List.mem_singleton.1 hx]; exact dcon_ok rfl rmay_ok) (inCallF_ok 60) (rrightP std kvF) Try.func24 (show _ = some (bodyS Try.prog 24) by kernel_rfl) fun d hd => rright_run d.1 hd
theorem same_ok : PFOk Try.prog 14 (sameP std kvF) :=
  pf_ok Try.progOk (noCon_ok _) (inCallF_ok 60) (sameP std kvF) Try.func14 (show _ = some (bodyS Try.prog 14) by kernel_rfl) fun d hd => same_run d.1 d.2.1 hd
theorem first_ok : PFOk Try.prog 10 (firstP std kvF) :=
  pf_ok (LS := fun _ => noL) Try.progOk bsCon_ok (inCallF_ok 60) (firstP std kvF) Try.func10 (show _ = some (bodyS Try.prog 10) by kernel_rfl) fun d hd => first_run d.1 d.2.1 hd
theorem get_ok : PFOk Try.prog 20 (getP std kvF) :=
  pf_ok (LS := fun _ => noL) Try.progOk bsCon_ok (inCallF_ok 60) (getP std kvF) Try.func20 (show _ = some (bodyS Try.prog 20) by kernel_rfl) fun d hd => get_run d.1 d.2.1 hd
theorem rfirst_ok : PFOk Try.prog 21 (rfirstP std kvF) :=
  pf_ok Try.progOk (noCon_ok _) (inCallF_ok 60) (rfirstP std kvF) Try.func21 (show _ = some (bodyS Try.prog 21) by kernel_rfl) fun d hd => rfirst_run d.1 d.2.1 hd
theorem rdel_ok : PFOk Try.prog 17 (rdelP std kvF) :=
  pf_ok Try.progOk (noCon_ok _) (inCallF_ok 60) (rdelP std kvF) Try.func17 (show _ = some (bodyS Try.prog 17) by kernel_rfl) fun d hd => rdel_run d.1 d.2.1 hd
theorem rset_ok : PFOk Try.prog 19 (rsetP std kvF) :=
  pf_ok (LS := fun _ => noL) Try.progOk (conL_ok fun x hx => by rw [List.mem_singleton.1 hx]; exact pcon_ok rfirst_ok) (inCallF_ok 60) (rsetP std kvF) Try.func19 (show _ = some (bodyS Try.prog 19) by kernel_rfl) fun d hd => rset_run d.1 d.2.1.1 d.2.1.2.1 hd
set_option maxHeartbeats 4000000 in
theorem cat_ok : PFOk Try.prog 27 (catP std kvF) :=
  pf_ok (LS := fun d => catLs d.1 (fun e => e.n = d.1.length ∧ ∃ i : Nat, e.i = i ∧ i ≤ d.1.length ∧ e.s = sumL d.1 i) (fun e => (e.n - e.i).toNat) (fun e => e.n = d.1.length ∧ ∃ i : Nat, e.i = i ∧ i ≤ d.1.length ∧ e.r = catL d.1 i) fun e => (e.n - e.i).toNat) Try.progOk (conL_ok fun x hx => by rw [List.mem_singleton.1 hx]; exact pcon_ok grow_ok) (inCallF_ok 60) (catP std kvF) Try.func27 (show _ = some (bodyS Try.prog 27) by kernel_rfl) fun d hd => cat_run d.1 (show d.1.length ≤ 3 from hd.1) (show ∀ i, i < d.1.length → (eL d.1 i).length ≤ 1000000 from hd.2)
theorem inI_std {n : Int} (h : inI std n) : -9223372036854775808 ≤ n ∧ n ≤ 9223372036854775807 := by
  obtain ⟨h1, h2⟩ := h
  have h1 : -9223372036854775808 ≤ n := h1
  have h2 : n ≤ 9223372036854775807 := h2
  exact ⟨h1, h2⟩
theorem withinCon_ok : ConOk Try.prog (withinCon std) := conL_ok fun x hx => by rw [List.mem_singleton.1 hx]; exact withinC_ok
theorem key_ok : PFOk Try.prog 15 (keyP std kvF) :=
  pf_ok (LS := fun _ => noL) Try.progOk withinCon_ok (inCallF_ok 60) (keyP std kvF) Try.func15 (show _ = some (bodyS Try.prog 15) by kernel_rfl) fun d hd => by
    obtain ⟨n, u⟩ := d
    obtain ⟨h⟩ := key_run n (inI_std hd)
    exact h
theorem txt_ok : PFOk Try.prog 16 (txtP std kvF) :=
  pf_ok (LS := fun _ => noL) Try.progOk withinCon_ok (inCallF_ok 60) (txtP std kvF) Try.func16 (show _ = some (bodyS Try.prog 16) by kernel_rfl) fun d hd => by
    obtain ⟨n, u⟩ := d
    obtain ⟨h⟩ := txt_run n (inI_std hd)
    exact h
theorem setCon_ok : ConOk Try.prog (setCon std kvF) := draw_ok (conL_ok fun x hx => by
  simp only [List.mem_cons, List.not_mem_nil, or_false] at hx
  rcases hx with rfl | rfl
  · exact pcon_ok bs_ok
  · exact pcon_ok may_ok) fun x hx => by rw [List.mem_singleton.1 hx]; exact dcon_ok rfl cat_ok
theorem set_ok : PFOk Try.prog 7 (setP std kvF) :=
  pf_ok (LS := fun _ => noL) Try.progOk setCon_ok (inCallF_ok 60) (setP std kvF) Try.func7 (show _ = some (bodyS Try.prog 7) by kernel_rfl) fun d hd => set_run d.1 d.2.1.1 d.2.1.2.1 hd
theorem del_ok : PFOk Try.prog 9 (delP std kvF) :=
  pf_ok (LS := fun _ => noL) Try.progOk setCon_ok (inCallF_ok 60) (delP std kvF) Try.func9 (show _ = some (bodyS Try.prog 9) by kernel_rfl) fun d hd => del_run d.1 d.2.1 hd
theorem runs_closed : (callN vbeq Try.prog X0 1000 3 [] H0).map (·.1) = some (.bool true) := by rw [callF_eq]; kernel_rfl
theorem playsCon_ok : ConOk Try.prog (playsCon std kvF) := conL_ok fun x hx => by
  simp only [List.mem_cons, List.not_mem_nil, or_false] at hx
  rcases hx with rfl | rfl | rfl | rfl | rfl | rfl | rfl | rfl | rfl | rfl | rfl | rfl | rfl
  · exact pcon_ok key_ok
  · exact pcon_ok txt_ok
  · exact pcon_ok del_ok
  · exact pcon_ok rdel_ok
  · exact pcon_ok set_ok
  · exact pcon_ok rmay_ok
  · exact pcon_ok rset_ok
  · exact pcon_ok get_ok
  · exact pcon_ok rfirst_ok
  · exact pcon_ok same_ok
  · exact pcon_ok right_ok
  · exact pcon_ok first_ok
  · exact closedC_ok (knownOk_none _) Try.func3 (show _ = some (bodyS Try.prog 3) by kernel_rfl) rfl runs_closed
def IntsOk (xs : List Value) : Prop := ∀ i, i < xs.length → -9223372036854775808 ≤ eI xs i ∧ eI xs i ≤ 9223372036854775807
/-- KvPlays, of lists of numbers. -/
noncomputable def playsQ : PF := pf (.cons cIs (.cons cP .nil)) (fun d => IntsOk d.1) [.bool false] fun _ => [.bool true]
theorem plays_ok : PFOk Try.prog 5 playsQ :=
  pf_ok (LS := fun d => playsLs d.1 d.2.1 (playsI d.1) playsM) Try.progOk playsCon_ok (inCallF_ok 60) playsQ Try.func5 (show _ = some (bodyS Try.prog 5) by kernel_rfl) fun d hd => plays_run d.1 d.2.1 hd
end Go.Proofs.Ytolkoacllaaceaa
