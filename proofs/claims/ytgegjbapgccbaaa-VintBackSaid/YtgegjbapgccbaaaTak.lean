/-
  TAKING 32 BYTES, as a contract for calls inside regions of open order.
-/
import Derived.Test.YtgegjbapgccbaaaTakV
namespace Go.Proofs.Ytgegjbapgccbaaa
open Go.RowKit Go.Abs Go

theorem tak_body : Try.f24.body = some (bodyS Try.prog 24) := by kernel_rfl
theorem tak1_run (o n : Nat) (xs : List Int) (hn : 32 ≤ n) : lawV std Try.prog noCon (inCallF 60) 60 (fun _ => none) Try.f24 (bodyS Try.prog 24) [.pointer (some ⟨0, 0, none⟩), .int .i64 32] (hpOf [some (.cells [mk (.slice (some ⟨1, o, none⟩) n U1), .bool false] false), some (.row (.ints .u8 xs) true)]) (takDone1 std ⟨o, n, xs⟩) := by
  rw [tak1_vc]
  refine ⟨fun h => absurd (of_decide_eq_true h) (by omega), fun _ => ⟨⟨by omega, trivial⟩, ⟨trivial, by omega⟩, ⟨_, _, _, _⟩, rfl, rfl, rfl, rfl, rfl⟩⟩
theorem tak2_run (o n : Nat) (xs : List Int) (hn : n < 32) : lawV std Try.prog noCon (inCallF 60) 60 (fun _ => none) Try.f24 (bodyS Try.prog 24) [.pointer (some ⟨0, 0, none⟩), .int .i64 32] (hpOf [some (.cells [mk (.slice (some ⟨1, o, none⟩) n U1), .bool false] false), some (.row (.ints .u8 xs) true)]) (takDone2 std false ⟨o, n, xs⟩) := by
  rw [tak2_vc]
  exact ⟨fun _ => ⟨(_, _), rfl, rfl, rfl⟩, fun h => absurd (of_decide_eq_false h) (by omega)⟩
theorem tak3_run (o n : Nat) (xs : List Int) : lawV std Try.prog noCon (inCallF 60) 60 (fun _ => none) Try.f24 (bodyS Try.prog 24) [.pointer (some ⟨0, 0, none⟩), .int .i64 32] (hpOf [some (.cells [mk (.slice (some ⟨1, o, none⟩) n U1), .bool true] false), some (.row (.ints .u8 xs) true)]) (takDone2 std true ⟨o, n, xs⟩) := by
  rw [tak3_vc]
  exact ⟨(_, _), rfl, rfl, rfl⟩
noncomputable def takG1 (S : Sy) : GOut PartD := ⟨takO1 S, fun d => ⟨d.o, 32, S.nadd d.o 32, S.nsub d.n 32⟩⟩
noncomputable def takG2 (S : Sy) (bad : Bool) : GOut PartD := ⟨takO2 S bad, fun d => (d.o, d.n)⟩
noncomputable def takD (S : Sy) (args : List Value) (h : Hp) (K : Value → Hp → Prop) : Prop :=
  match (takI S false).sh.mat true ((takI S false).rho args h) ⟨args, h⟩ with
  | some _ => gcon (takI S false) [takG1 S, takG2 S false] args h K
  | none => gcon (takI S true) [takG2 S true] args h K
theorem takD_ok : ∀ args h K, takD std args h K → FunSem Try.prog 24 args h K := by
  intro args h K e
  unfold takD at e
  split at e
  · refine gcon_ok (fun d _ => ?_) (fun O hO => ?_) (fun O hO => ?_) args h K e
    · by_cases hn : 32 ≤ d.n
      · exact ⟨_, List.mem_cons_self, hn⟩
      · exact ⟨_, List.mem_cons_of_mem _ List.mem_cons_self, show d.n < 32 by omega⟩
    · rcases List.mem_cons.1 hO with rfl | hO
      · rintro d ⟨a, b, c, d'⟩ ⟨rfl, rfl, rfl, rfl⟩
        rfl
      · have := List.mem_singleton.1 hO
        subst this
        rintro d ⟨a, b⟩ ⟨rfl, rfl⟩
        rfl
    · rcases List.mem_cons.1 hO with rfl | hO
      · exact FSpec.okF Try.progOk (noCon_ok _) (inCallF_ok 60) _ Try.func24 tak_body (Nat.le_of_ble_eq_true rfl) rfl fun d hd => ⟨_, rfl, rfl, tak1_run d.o d.n d.xs hd.2⟩
      · rw [List.mem_singleton.1 hO]
        exact FSpec.okF Try.progOk (noCon_ok _) (inCallF_ok 60) _ Try.func24 tak_body (Nat.le_of_ble_eq_true rfl) rfl fun d hd => ⟨_, rfl, rfl, tak2_run d.o d.n d.xs hd.2⟩
  · refine gcon_ok (fun d _ => ⟨_, List.mem_cons_self, trivial⟩) (fun O hO => ?_) (fun O hO => ?_) args h K e
    · have := List.mem_singleton.1 hO
      subst this
      rintro d ⟨a, b⟩ ⟨rfl, rfl⟩
      rfl
    · rw [List.mem_singleton.1 hO]
      exact FSpec.okF Try.progOk (noCon_ok _) (inCallF_ok 60) _ Try.func24 tak_body (Nat.le_of_ble_eq_true rfl) rfl fun d hd => ⟨_, rfl, rfl, tak3_run d.o d.n d.xs⟩
end Go.Proofs.Ytgegjbapgccbaaa
