/-
  What the text asks for.
-/
import Derived.Test.YtgegjbapgccbaaaNum
import Derived.Test.YtgegjbapgccbaaaAbs55
namespace Go.Proofs.Ytgegjbapgccbaaa
open Go.Abs Go
/-- Taking 32 bytes. -/
noncomputable def takSh (bad : Bool) : Shape := ⟨[some (.one (.zero (.ptr 0 0))), some (.one (.zero (.lit (.int .i64 32))))], [some (.cells [.zero (.sl 1 U1), .zero (.lit (.bool bad))] false), bRow true]⟩
noncomputable def takI (_S : Sy) (bad : Bool) : FIn := ⟨PartD, takSh bad, rhoOf (takSh bad), fun d => [.sl d.o d.n, .row (.ints .u8 d.xs)], fun _ => True⟩
structure TakR where
  o : Nat
  n : Nat
  o' : Nat
  n' : Nat
noncomputable def takO1 (S : Sy) : FOut PartD := ⟨fun d => S.nle 32 d.n, TakR, [.one (.zero (.sl 1 U1))], rdOut false, orhoOf 2 [.one (.zero (.sl 1 U1))] (rdOut false), fun r => [.sl r.o r.n, .sl r.o' r.n'], fun d r => S.neq r.o d.o ∧ S.neq r.n 32 ∧ S.neq r.o' (S.nadd d.o 32) ∧ S.neq r.n' (S.nsub d.n 32)⟩
noncomputable def takO2 (S : Sy) (bad : Bool) : FOut PartD := ⟨fun d => if bad then True else S.nlt d.n 32, Nat × Nat, [.one (.zero (.lit (.slice none 0 0)))], rdOut true, orhoOf 2 [.one (.zero (.lit (.slice none 0 0)))] (rdOut true), fun r => [.sl r.1 r.2], fun d r => S.neq r.1 d.o ∧ S.neq r.2 d.n⟩
noncomputable def takDone1 (S : Sy) (d : PartD) (v : Value) (h : Hp) : Prop := FSpec.done ((takO1 S).spec (takI S false)) d v h
noncomputable def takDone2 (S : Sy) (bad : Bool) (d : PartD) (v : Value) (h : Hp) : Prop := FSpec.done ((takO2 S bad).spec (takI S bad)) d v h
theorem tak1_vc (o n : Nat) (xs : List Int) : lawV std Try.prog noCon (inCallF 60) 60 (fun _ => none) Try.f24 (bodyS Try.prog 24) [.pointer (some ⟨0, 0, none⟩), .int .i64 32] (hpOf [some (.cells [mk (.slice (some ⟨1, o, none⟩) n U1), .bool false] false), some (.row (.ints .u8 xs) true)]) (takDone1 std ⟨o, n, xs⟩) =
  ((((decide ((n : Int) < (32 : Int))) = true) → False) ∧ (((decide ((n : Int) < (32 : Int))) = false) → (((((0 : Int) ≤ (32 : Int)) ∧ ((32 : Int) ≤ (n : Int))) ∧ True) ∧ ((True ∧ (((0 : Int) ≤ (32 : Int)) ∧ ((32 : Int) ≤ (n : Int)))) ∧ (∃ (r6 : TakR), (([(Filler.sl (r6.o) (r6.n)), (Filler.sl (r6.o') (r6.n'))] = [(Filler.sl (o + (0 * 1)) ((Int.toNat (32 : Int)) - 0)), (Filler.sl (o + ((Int.toNat (32 : Int)) * 1)) (n - (Int.toNat (32 : Int))))]) ∧ (((r6.o) = o) ∧ (((r6.n) = 32) ∧ (((r6.o') = (o + 32)) ∧ ((r6.n') = (n - 32))))))))))) := by kernel_rfl
theorem tak2_vc (o n : Nat) (xs : List Int) : lawV std Try.prog noCon (inCallF 60) 60 (fun _ => none) Try.f24 (bodyS Try.prog 24) [.pointer (some ⟨0, 0, none⟩), .int .i64 32] (hpOf [some (.cells [mk (.slice (some ⟨1, o, none⟩) n U1), .bool false] false), some (.row (.ints .u8 xs) true)]) (takDone2 std false ⟨o, n, xs⟩) =
  ((((decide ((n : Int) < (32 : Int))) = true) → (∃ (r6 : Nat × Nat), (([(Filler.sl (r6.fst) (r6.snd))] = [(Filler.sl o n)]) ∧ (((r6.fst) = o) ∧ ((r6.snd) = n))))) ∧ (((decide ((n : Int) < (32 : Int))) = false) → (((((0 : Int) ≤ (32 : Int)) ∧ ((32 : Int) ≤ (n : Int))) ∧ True) ∧ ((True ∧ (((0 : Int) ≤ (32 : Int)) ∧ ((32 : Int) ≤ (n : Int)))) ∧ False)))) := by kernel_rfl
theorem tak3_vc (o n : Nat) (xs : List Int) : lawV std Try.prog noCon (inCallF 60) 60 (fun _ => none) Try.f24 (bodyS Try.prog 24) [.pointer (some ⟨0, 0, none⟩), .int .i64 32] (hpOf [some (.cells [mk (.slice (some ⟨1, o, none⟩) n U1), .bool true] false), some (.row (.ints .u8 xs) true)]) (takDone2 std true ⟨o, n, xs⟩) =
  (∃ (r5 : Nat × Nat), (([(Filler.sl (r5.fst) (r5.snd))] = [(Filler.sl o n)]) ∧ (((r5.fst) = o) ∧ ((r5.snd) = n)))) := by kernel_rfl
end Go.Proofs.Ytgegjbapgccbaaa
