/-
  MAY A PAIR BE: a contract, of pairs that may.
-/
import Derived.Test.YtmhfnbbamoadgaaMayV
namespace Go.Proofs.Ytmhfnbbamoadgaa
open Go.RowKit Go.Abs
theorem may_body : Try.f55.body = some (bodyS Try.prog 55) := by kernel_rfl
theorem mayTell_ok : ConOk Try.prog mayTell := tellG_ok (noCon_ok _) _
theorem vr1_string {μ : Mu} {a v : Value} {x : ByteArray} (h : VR1 μ a v) (hd : den a = .string x) : v = .string x := by
  have h2 : VR μ a v := .a (.one h)
  have h3 := h2.den
  rw [hd] at h3
  exact vr_plain_eq h3 rfl
set_option maxRecDepth 100000 in
theorem may_val {cs : Array Value} {a b : Value} {k v : ByteArray} (hcs : cs.toList = [a, b]) (ha : den a = .string k) (hb : den b = .string v) (h : (!(std.seq k ⟨#[]⟩)) = true ∧ std.slen k ≤ 16 ∧ std.slen v ≤ 24) : LVal Try.prog 55 [.agg cs] (.bool true) := by
  intro μ w args' hl
  obtain ⟨v1, l1, e1, r1, hl⟩ := hl.inv_cons
  have e4 := hl.inv_nil
  obtain ⟨ys, rfl, hys⟩ := r1.inv_agg
  rw [hcs] at hys
  obtain ⟨y1, m1, g1, q1, hys⟩ := hys.inv_cons
  obtain ⟨y2, m2, g2, q2, hys⟩ := hys.inv_cons
  have g3 := hys.inv_nil
  rw [vr1_string q1 ha] at g1; rw [vr1_string q2 hb] at g2
  subst e4; subst g3; subst g2
  have hy : ys = #[.string k, .string v] := Array.toList_inj.1 g1
  subst hy
  have : args' = #[.agg #[.string k, .string v]] := Array.toList_inj.1 e1
  subst this
  refine ⟨.bool true, fun μ' => .plain1 rfl, enters_name Try.func55 may_body _ w, ?_⟩
  refine law_val Try.progOk mayTell_ok (inCallF_ok 60) Try.func55 may_body (n := 60) (LS := fun _ => none) (u := .bool true) rfl (args := [.agg #[mk (.string k), mk (.string v)]]) (h0 := H0) (fun b x h => by unfold H0 Hp.get at h; simp at h) ?_ (μ := MuN)
    (All2.cons (.a (.agg (All2.cons (.zero (.mark (.plain rfl) rfl)) (All2.cons (.zero (.mark (.plain rfl) rfl)) All2.nil)))) All2.nil) (rel_none _ (Nat.le_refl _)) (fun _ _ => rfl)
  rw [may_vc]
  refine ⟨h.1, decide_eq_true ?_, decide_eq_true ?_, rfl⟩
  · have := h.2.1; omega
  · have := h.2.2; omega
theorem mayD_val {args : List Value} {h : Hp} {K : Value → Hp → Prop} (e : mayD std args h K) : ∃ v, LVal Try.prog 55 args v ∧ K v h := by
  unfold mayD at e
  split at e
  case h_2 => exact e.elim
  rename_i cs
  split at e
  case h_2 => exact e.elim
  rename_i a b hcs
  split at e
  case h_2 => exact e.elim
  rename_i k v ha hb
  exact ⟨_, may_val hcs ha hb e.1, e.2⟩
theorem mayD_ok : ∀ args h K, mayD std args h K → FunSem Try.prog 55 args h K := by
  intro args h K e
  obtain ⟨v, h1, h2⟩ := mayD_val e
  exact h1.draw h2
theorem mayC_ok : ∀ args h K, mayD std args h K → CallSem Try.prog 55 args h K := by
  intro args h K e
  obtain ⟨v, h1, h2⟩ := mayD_val e
  exact h1.call h2
theorem enc_len (n : Int) : ∀ k, (encF k n).length ≤ k := by
  intro k
  induction k generalizing n with
  | zero => exact Nat.le_refl 0
  | succ k ih =>
    unfold encF
    split
    · rw [List.length_cons]; have := ih (std.shr .i64 n 7); omega
    · rw [List.length_singleton]; omega
theorem rec_short (t r : Int) : std.slen (recOf t r) ≤ 12 := by
  rw [rec_len]
  have h1 := enc_len t 6
  have h2 := enc_len r 6
  unfold enc
  omega
end Go.Proofs.Ytmhfnbbamoadgaa
