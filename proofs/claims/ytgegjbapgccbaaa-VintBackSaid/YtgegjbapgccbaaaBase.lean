/-
  CONTRACTS of the vint layer, together; what is told of a number's bytes.
-/
import Derived.Test.YtgegjbapgccbaaaNum
import Derived.Test.YtgegjbapgccbaaaTak
import Derived.Test.YtgegjbapgccbaaaAbs54
import Derived.Test.YtgegjbapgccbaaaAbs50
namespace Go.Proofs.Ytgegjbapgccbaaa
open Go.RowKit Go.Abs Go
/-- A number's bytes: of a letter by its contract, else by the text. -/
noncomputable def oneX (S : Sy) (enc : Int → List Int) (args : List Value) (h : Hp) (K : Value → Hp → Prop) : Prop :=
  match args with
  | [a] => if isMark a then fcon (oneI S) [oneO S enc] args h K else lawV S Try.prog noCon (inCallF 60) 60 (fun _ => none) Try.f25 (bodyS Try.prog 25) args h K
  | _ => False
/-- A reader's number: of one that is good by its contract, else by the text. -/
noncomputable def numX (S : Sy) (ok : List Int → Prop) (val : List Int → Int) (adv : List Int → Nat) (args : List Value) (h : Hp) (K : Value → Hp → Prop) : Prop :=
  match (numI S).sh.mat true ((numI S).rho args h) ⟨args, h⟩ with
  | some _ => fcon (numI S) [numO1 S ok val adv, numO2 S ok] args h K
  | none => lawV S Try.prog noCon (inCallF 60) 60 (fun _ => none) Try.f10 (bodyS Try.prog 10) args h K
noncomputable def appT (l : List Nat) (o : Oper) (_ : Operand → Value) : Option Bool :=
  match o.op, o.dst with
  | .call { callee := .builtin .append, .. }, some d => if l.contains d then some false else none
  | _, _ => none
noncomputable def vintCons (S : Sy) (enc : Int → List Int) (ok : List Int → Prop) (val : List Int → Int) (adv : List Int → Nat) (l : List Nat) : Con :=
  ((conL [(16, withinC S), (25, oneX S enc), (9, fcon (reI S) [reO S]), (10, numX S ok val adv), (11, fcon (smI S) [smO S true, smO S false]), (3, closedC (.bool true))]).tellO (appT l)).draw [(24, takD S)]
theorem vintRuns_run : (callN vbeq Try.prog X0 60 3 [] H0).map (·.1) = some (.bool true) := by
  rw [callF_eq]
  kernel_rfl
theorem vintRuns_body : ∃ c, Try.f3.body = some c := ⟨_, rfl⟩
theorem oneX_ok : ∀ args h K, oneX std enc args h K → CallSem Try.prog 25 args h K := by
  intro args h K e
  unfold oneX at e
  split at e
  case h_2 => exact e.elim
  split at e
  · exact oneC_ok _ _ _ e
  · exact text_sem Try.progOk (noCon_ok _) (inCallF_ok 60) Try.func25 one_body e
theorem numX_ok : ∀ args h K, numX std okN valN advN args h K → CallSem Try.prog 10 args h K := by
  intro args h K e
  unfold numX at e
  split at e
  · exact numC_ok _ _ _ e
  · exact text_sem Try.progOk (noCon_ok _) (inCallF_ok 60) Try.func10 num_body e
theorem vintCons_ok (l : List Nat) : ConOk Try.prog (vintCons std enc okN valN advN l) := by
  obtain ⟨c, hc⟩ := vintRuns_body
  refine draw_ok (tellO_ok (conL_ok fun x hx => ?_) _) fun x hx => ?_
  · simp only [List.mem_cons, List.not_mem_nil, or_false] at hx
    rcases hx with rfl | rfl | rfl | rfl | rfl | rfl
    · exact withinC_ok
    · exact oneX_ok
    · exact reC_ok
    · exact numX_ok
    · exact sameC_ok
    · exact closedC_ok (knownOk_none Try.prog) Try.func3 hc rfl vintRuns_run
  · simp only [List.mem_cons, List.not_mem_nil, or_false] at hx
    subst hx
    exact takD_ok
theorem enc_ne (n : Int) : ((enc n).length == 0) = false := by have := enc_len n; exact beq_eq_false_iff_ne.2 (by omega)
theorem enc_sz (n : Int) : 0 + (enc n).length ≤ (enc n).length ∧ (enc n).length * 1 ≤ 140737488355328 ∧ (enc n).length ≤ 4611686018427387904 := by have := enc_len n; omega
theorem enc_six (n : Int) : decide (((enc n).length : Int) ≤ 6) = true := decide_eq_true (by have := enc_len n; omega)
theorem enc_one (n : Int) : decide ((1 : Int) ≤ ((enc n).length : Int)) = true := decide_eq_true (by have := enc_len n; omega)
theorem take_all (l : List Int) : (((l.drop 0).take l.length).drop 0).take l.length = l := by simp
theorem enc_part (n : Int) : 0 + (enc n).length ≤ (((enc n).drop 0).take (enc n).length).length ∧ (enc n).length ≤ 1000000 := by have := enc_len n; simp; omega
theorem take_both {l m : List Int} (h : (((l.drop 0).take l.length).drop 0).take l.length = (((m.drop 0).take m.length).drop 0).take m.length) : l = m := by rwa [take_all, take_all] at h
theorem both_take {l m : List Int} (h : l = m) : (((l.drop 0).take l.length).drop 0).take l.length = (((m.drop 0).take m.length).drop 0).take m.length := by rw [h]
theorem no_nil : ¬ okN [] := by unfold okN; simp [numL]
theorem ok_some {l : List Int} (h : okN l) : numL 6 0 0 l = some (valN l, advN l) := by
  unfold okN at h
  unfold valN advN
  cases hr : numL 6 0 0 l with
  | none => rw [hr] at h; cases h
  | some x => rfl
theorem wf_bytes {xs : List Int} (h : ∀ z ∈ xs, (Lit.int .u8 z).wf = true) : Bytes xs := fun z hz => by
  have := h z hz
  simp [Lit.wf] at this
  have e1 : IntKind.u8.min = 0 := rfl
  have e2 : IntKind.u8.max = 255 := rfl
  omega
end Go.Proofs.Ytgegjbapgccbaaa
