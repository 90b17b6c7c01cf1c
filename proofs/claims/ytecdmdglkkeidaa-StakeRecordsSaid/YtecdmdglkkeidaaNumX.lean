/-
  A READER's NUMBER, of a reader that is good, and of one that isn't.
-/
import Derived.Test.YtecdmdglkkeidaaNum
import Derived.Test.YtecdmdglkkeidaaAbs49
namespace Go.Proofs.Ytecdmdglkkeidaa
open Go.RowKit Go.Abs Go
/-- A reader's number: of one that is good by its contract, else by the text. -/
noncomputable def numX (S : Sy) (ok : List Int → Prop) (val : List Int → Int) (adv : List Int → Nat) (args : List Value) (h : Hp) (K : Value → Hp → Prop) : Prop :=
  match (numI S).sh.mat true ((numI S).rho args h) ⟨args, h⟩ with
  | some _ => fcon (numI S) [numO1 S ok val adv, numO2 S ok] args h K
  | none => lawV S Try.prog noCon (inCallF 60) 60 (fun _ => none) Try.f40 (bodyS Try.prog 40) args h K
theorem numX_ok : ∀ args h K, numX std okN valN advN args h K → CallSem Try.prog 40 args h K := by
  intro args h K e
  unfold numX at e
  split at e
  · exact numC_ok _ _ _ e
  · exact text_sem Try.progOk (noCon_ok _) (inCallF_ok 60) Try.func40 num_body e
theorem enc_ne (n : Int) : ((enc n).length == 0) = false := by have := enc_len n; exact beq_eq_false_iff_ne.2 (by omega)
theorem enc_sz (n : Int) : 0 + (enc n).length ≤ (enc n).length ∧ (enc n).length * 1 ≤ 140737488355328 ∧ (enc n).length ≤ 4611686018427387904 := by have := enc_len n; omega
theorem enc_six (n : Int) : decide (((enc n).length : Int) ≤ 6) = true := decide_eq_true (by have := enc_len n; omega)
theorem enc_one (n : Int) : decide ((1 : Int) ≤ ((enc n).length : Int)) = true := decide_eq_true (by have := enc_len n; omega)
theorem take_all (l : List Int) : (((l.drop 0).take l.length).drop 0).take l.length = l := by simp
theorem enc_part (n : Int) : 0 + (enc n).length ≤ (((enc n).drop 0).take (enc n).length).length ∧ (enc n).length ≤ 1000000 := by have := enc_len n; simp; omega
theorem take_both {l m : List Int} (h : (((l.drop 0).take l.length).drop 0).take l.length = (((m.drop 0).take m.length).drop 0).take m.length) : l = m := by rwa [take_all, take_all] at h
theorem both_take {l m : List Int} (h : l = m) : (((l.drop 0).take l.length).drop 0).take l.length = (((m.drop 0).take m.length).drop 0).take m.length := by rw [h]
theorem ok_some {l : List Int} (h : okN l) : numL 6 0 0 l = some (valN l, advN l) := by
  unfold okN at h
  unfold valN advN
  cases hr : numL 6 0 0 l with
  | none => rw [hr] at h; cases h
  | some x => rfl
end Go.Proofs.Ytecdmdglkkeidaa
