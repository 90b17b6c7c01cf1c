/-
  What the text asks for.
-/
import Derived.Test.YtecdmdglkkeidaaMay
namespace Go.Proofs.Ytecdmdglkkeidaa
open Go.Abs Go
def blkOf (l : List ByteArray) : Blk := .cells (l.map fun s => mk (.string s)) true
theorem same0_vc (k1 k2 : Nat) : lawV std Try.prog noCon (inCallF 60) 60 (fun _ => none) Try.f19 (bodyS Try.prog 19) [.slice (some ⟨0, 0, none⟩) 0 k1, .slice (some ⟨1, 0, none⟩) 0 k2] (inH [some (blkOf []), some (blkOf [])]) (fun v _ => den v = .bool true) =
  ((Go.Value.bool true) = (Go.Value.bool true)) := by kernel_rfl
theorem same1_vc (k1 k2 : Nat) (p0 p1 q0 q1 : ByteArray) : lawV std Try.prog noCon (inCallF 60) 60 (fun _ => none) Try.f19 (bodyS Try.prog 19) [.slice (some ⟨0, 0, none⟩) 1 k1, .slice (some ⟨1, 0, none⟩) 1 k2] (inH [some (blkOf [p0, p1]), some (blkOf [q0, q1])]) (fun v _ => den v = .bool true) =
  ((((!((std.seq p0 q0) && (std.seq p1 q1))) = true) → ((Go.Value.bool false) = (Go.Value.bool true))) ∧ (((!((std.seq p0 q0) && (std.seq p1 q1))) = false) → ((Go.Value.bool true) = (Go.Value.bool true)))) := by kernel_rfl
theorem same2_vc (k1 k2 : Nat) (p0 p1 p2 p3 q0 q1 q2 q3 : ByteArray) : lawV std Try.prog noCon (inCallF 60) 60 (fun _ => none) Try.f19 (bodyS Try.prog 19) [.slice (some ⟨0, 0, none⟩) 2 k1, .slice (some ⟨1, 0, none⟩) 2 k2] (inH [some (blkOf [p0, p1, p2, p3]), some (blkOf [q0, q1, q2, q3])]) (fun v _ => den v = .bool true) =
  ((((!((std.seq p0 q0) && (std.seq p1 q1))) = true) → ((Go.Value.bool false) = (Go.Value.bool true))) ∧ (((!((std.seq p0 q0) && (std.seq p1 q1))) = false) → ((((!((std.seq p2 q2) && (std.seq p3 q3))) = true) → ((Go.Value.bool false) = (Go.Value.bool true))) ∧ (((!((std.seq p2 q2) && (std.seq p3 q3))) = false) → ((Go.Value.bool true) = (Go.Value.bool true)))))) := by kernel_rfl
end Go.Proofs.Ytecdmdglkkeidaa
