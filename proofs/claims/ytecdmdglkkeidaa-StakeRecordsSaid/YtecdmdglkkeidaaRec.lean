/-
  A RECORD's TEXT, as a contract: amounts in their bounds.
-/
import Derived.Test.YtecdmdglkkeidaaRecV
import Derived.Test.YtecdmdglkkeidaaAbs47
namespace Go.Proofs.Ytecdmdglkkeidaa
open Go.RowKit Go.Abs

theorem rec_body : Try.f13.body = some (bodyS Try.prog 13) := by kernel_rfl
set_option maxHeartbeats 4000000 in
theorem rec_run (t r : Int) (ht : 0 ≤ t ∧ t ≤ 1073741824) (hr : 0 ≤ r ∧ r ≤ 1073741824) : lawV std Try.prog recTell (inCallF 60) 31 (fun _ => none) Try.f13 (bodyS Try.prog 13) [mk (.int .i64 t), mk (.int .i64 r)] H0 (fun v _ => den v = .string (recOf t r)) := by
  rw [rec_vc]
  repeat' first
    | (intro h; simp only [decide_eq_true_eq, shr7] at h; exfalso; omega)
    | (intro h; simp only [decide_eq_true_eq] at h)
    | (intro h; simp only [decide_eq_false_iff_not] at h)
    | (refine And.intro ?_ ?_)
  all_goals first
    | (refine decide_eq_true ?_; omega)
    | (refine decide_eq_false ?_; omega)
    | omega
    | exact Nat.le_refl _
    | (simp only [List.drop_zero, recOf, enc, encF, if_true, if_false, *]; rfl)
    | (simp only [List.length_cons, List.length_nil]; omega)
theorem recTell_ok : ConOk Try.prog recTell := tellG_ok (noCon_ok _) _
set_option maxRecDepth 100000 in
theorem rec_val {a b : Value} {t r : Int} (ha : den a = .int .i64 t) (hb : den b = .int .i64 r) (ht : 0 ≤ t ∧ t ≤ 1073741824) (hr : 0 ≤ r ∧ r ≤ 1073741824) : LVal Try.prog 13 [a, b] (mk (.string (recOf t r))) := by
  intro μ w args' hl
  obtain ⟨v1, l1, e1, r1, hl⟩ := hl.inv_cons
  obtain ⟨v2, l2, e2, r2, hl⟩ := hl.inv_cons
  have e4 := hl.inv_nil
  have r1 := r1.den
  have r2 := r2.den
  rw [ha] at r1; rw [hb] at r2
  rw [r1.inv_int] at e1; rw [r2.inv_int] at e2
  subst e4; subst e2
  have : args' = #[.int .i64 t, .int .i64 r] := Array.toList_inj.1 e1
  subst this
  refine ⟨.string (recOf t r), fun μ' => .zero (.mark (.plain rfl) rfl), enters_name Try.func13 rec_body _ w, ?_⟩
  exact law_val Try.progOk recTell_ok (inCallF_ok 60) Try.func13 rec_body (u := .string (recOf t r)) rfl (args := [mk (.int .i64 t), mk (.int .i64 r)]) (h0 := H0) (fun b x h => by unfold H0 Hp.get at h; simp at h) (rec_run t r ht hr) (μ := MuN)
    (All2.cons (.zero (.mark (.plain rfl) rfl)) (All2.cons (.zero (.mark (.plain rfl) rfl)) All2.nil)) (rel_none _ (Nat.le_refl _)) (fun _ _ => rfl)
/-- A record's text, of amounts. -/
def recC (S : Sy) (rec : Int → Int → ByteArray) (args : List Value) (h : Hp) (K : Value → Hp → Prop) : Prop :=
  match args with
  | [a, b] => match den a, den b with
    | .int .i64 t, .int .i64 r => ((S.ile 0 t ∧ S.ile t 1073741824) ∧ (S.ile 0 r ∧ S.ile r 1073741824)) ∧ K (mk (.string (rec t r))) h
    | _, _ => False
  | _ => False
theorem recC_val {args : List Value} {h : Hp} {K : Value → Hp → Prop} (e : recC std recOf args h K) : ∃ v, LVal Try.prog 13 args v ∧ K v h := by
  unfold recC at e
  split at e
  case h_2 => exact e.elim
  rename_i a b
  split at e
  case h_2 => exact e.elim
  rename_i t r ha hb
  exact ⟨_, rec_val ha hb e.1.1 e.1.2, e.2⟩
theorem recC_ok : ∀ args h K, recC std recOf args h K → CallSem Try.prog 13 args h K := by
  intro args h K e
  obtain ⟨v, h1, h2⟩ := recC_val e
  exact h1.call h2
theorem recD_ok : ∀ args h K, recC std recOf args h K → FunSem Try.prog 13 args h K := by
  intro args h K e
  obtain ⟨v, h1, h2⟩ := recC_val e
  exact h1.draw h2
end Go.Proofs.Ytecdmdglkkeidaa
