/-
  SORTED: a sort that the kernel can work out; it is the library's merge sort.
-/
import Derived.Test.YtddejgkfgnokgaaAbs22
namespace Go.Abs

section
variable {α : Type} (le : α → α → Bool)

def insS (a : α) : List α → List α
  | [] => [a]
  | b :: l => if le a b then a :: b :: l else b :: insS a l
def sortS : List α → List α
  | [] => []
  | a :: l => insS le a (sortS l)

theorem insS_perm (a : α) : ∀ l, (insS le a l).Perm (a :: l)
  | [] => .refl _
  | b :: l => by
    unfold insS
    split
    · exact .refl _
    · exact ((insS_perm a l).cons b).trans (.swap a b l)
theorem sortS_perm : ∀ l : List α, (sortS le l).Perm l
  | [] => .refl _
  | a :: l => (insS_perm le a _).trans ((sortS_perm l).cons a)

variable {le}
theorem insS_sorted (tr : ∀ a b c, le a b = true → le b c = true → le a c = true) (to : ∀ a b, (le a b || le b a) = true) (a : α) : ∀ {l : List α}, l.Pairwise (fun x y => le x y = true) → (insS le a l).Pairwise (fun x y => le x y = true)
  | [], _ => by simp [insS]
  | b :: l, h => by
    unfold insS
    have h1 := List.pairwise_cons.1 h
    split
    · rename_i hab
      refine List.pairwise_cons.2 ⟨fun x hx => ?_, h⟩
      rcases List.mem_cons.1 hx with rfl | hx
      · exact hab
      · exact tr _ _ _ hab (h1.1 x hx)
    · rename_i hab
      refine List.pairwise_cons.2 ⟨fun x hx => ?_, insS_sorted tr to a h1.2⟩
      have hx' := (insS_perm le a l).mem_iff.1 hx
      rcases List.mem_cons.1 hx' with rfl | hx'
      · have := to x b
        simp only [Bool.or_eq_true] at this
        rcases this with h2 | h2
        · exact absurd h2 hab
        · exact h2
      · exact h1.1 x hx'
theorem sortS_sorted (tr : ∀ a b c, le a b = true → le b c = true → le a c = true) (to : ∀ a b, (le a b || le b a) = true) : ∀ l : List α, (sortS le l).Pairwise (fun x y => le x y = true)
  | [] => .nil
  | a :: l => insS_sorted tr to a (sortS_sorted tr to l)

/-- Whatever has the same elements, merge-sorted. -/
theorem sortS_eq (tr : ∀ a b c, le a b = true → le b c = true → le a c = true) (to : ∀ a b, (le a b || le b a) = true) (as : ∀ a b, le a b = true → le b a = true → a = b) {l l' : List α} (h : l.Perm l') : l.mergeSort le = sortS le l' :=
  List.Perm.eq_of_pairwise (le := fun a b => le a b = true) (fun a b _ _ h1 h2 => as a b h1 h2) (List.pairwise_mergeSort tr to l) (sortS_sorted tr to l') (((List.mergeSort_perm l le).trans h).trans (sortS_perm le l').symm)
end

theorem sortS_int {l l' : List Int} (h : l.Perm l') : l.mergeSort (fun x y => decide (x ≤ y)) = sortS (fun x y => decide (x ≤ y)) l' :=
  sortS_eq (fun a b c h1 h2 => by simp only [decide_eq_true_eq] at *; exact Int.le_trans h1 h2) (fun a b => by simp only [Bool.or_eq_true, decide_eq_true_eq]; exact Int.le_total a b)
    (fun a b h1 h2 => by simp only [decide_eq_true_eq] at *; exact Int.le_antisymm h1 h2) h
theorem sortS_str {l l' : List (List UInt8)} (h : l.Perm l') : l.mergeSort (fun x y => decide (x ≤ y)) = sortS (fun x y => decide (x ≤ y)) l' :=
  sortS_eq (fun a b c h1 h2 => by simp only [decide_eq_true_eq] at *; exact List.le_trans h1 h2) (fun a b => by simp only [Bool.or_eq_true, decide_eq_true_eq]; exact List.le_total a b)
    (fun a b h1 h2 => by simp only [decide_eq_true_eq] at *; exact List.le_antisymm h1 h2) h
end Go.Abs
