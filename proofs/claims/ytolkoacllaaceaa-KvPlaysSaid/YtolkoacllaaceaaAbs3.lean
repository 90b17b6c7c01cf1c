/-
  THE ABSTRACT EVALUATOR AND THE MODEL: values, rows, worlds that stand for one another; operations that look at no memory.
-/
import Derived.Test.YtolkoacllaaceaaAbs2
namespace Go.Abs
open Go

def All2 {α β : Type} (R : α → β → Prop) (l : List α) (m : List β) : Prop :=
  l.length = m.length ∧ ∀ (i : Nat) (a : α), l[i]? = some a → ∃ b, m[i]? = some b ∧ R a b

section
variable {α β : Type} {R : α → β → Prop}
theorem All2.nil : All2 R [] [] := ⟨rfl, fun i a h => by simp at h⟩
theorem All2.cons {a : α} {b : β} {l : List α} {m : List β} (h : R a b) (hl : All2 R l m) : All2 R (a :: l) (b :: m) := by
  refine ⟨by simp [hl.1], fun i x hx => ?_⟩
  cases i with
  | zero => simp at hx; subst hx; exact ⟨b, by simp, h⟩
  | succ i => simp at hx; obtain ⟨y, hy, r⟩ := hl.2 i x hx; exact ⟨y, by simpa using hy, r⟩
theorem All2.inv_cons {a : α} {l : List α} {m : List β} (h : All2 R (a :: l) m) : ∃ b m', m = b :: m' ∧ R a b ∧ All2 R l m' := by
  cases m with
  | nil => have := h.1; simp at this
  | cons b m' =>
    refine ⟨b, m', rfl, ?_, ⟨by simpa using h.1, fun i x hx => ?_⟩⟩
    · obtain ⟨y, hy, r⟩ := h.2 0 a (by simp); simp at hy; subst hy; exact r
    · obtain ⟨y, hy, r⟩ := h.2 (i + 1) x (by simpa using hx); exact ⟨y, by simpa using hy, r⟩
theorem All2.inv_nil {m : List β} (h : All2 R [] m) : m = [] :=
  List.eq_nil_of_length_eq_zero h.1.symm
theorem All2.mono {R' : α → β → Prop} {l : List α} {m : List β} (h : All2 R l m) (hr : ∀ a b, a ∈ l → R a b → R' a b) : All2 R' l m :=
  ⟨h.1, fun i a ha => let ⟨b, hb, r⟩ := h.2 i a ha; ⟨b, hb, hr a b (List.mem_of_getElem? ha) r⟩⟩
theorem All2.append {l l' : List α} {m m' : List β} (h : All2 R l m) (h' : All2 R l' m') : All2 R (l ++ l') (m ++ m') := by
  refine ⟨by simp [h.1, h'.1], fun i a ha => ?_⟩
  rw [List.getElem?_append] at ha
  rw [List.getElem?_append, ← h.1]
  split at ha
  · rename_i hl; rw [if_pos hl]; exact h.2 i a ha
  · rename_i hl; rw [if_neg hl]; exact h'.2 _ a ha
theorem All2.take {l : List α} {m : List β} (h : All2 R l m) (n : Nat) : All2 R (l.take n) (m.take n) := by
  refine ⟨by simp [h.1], fun i a ha => ?_⟩
  rw [List.getElem?_take] at ha ⊢
  split at ha
  · rename_i hl; rw [if_pos hl]; exact h.2 i a ha
  · cases ha
theorem All2.drop {l : List α} {m : List β} (h : All2 R l m) (n : Nat) : All2 R (l.drop n) (m.drop n) := by
  refine ⟨by simp [h.1], fun i a ha => ?_⟩
  rw [List.getElem?_drop] at ha ⊢
  exact h.2 _ a ha
theorem All2.set {l : List α} {m : List β} (h : All2 R l m) (n : Nat) {a : α} {b : β} (r : R a b) : All2 R (l.set n a) (m.set n b) := by
  refine ⟨by simp [h.1], fun i x hx => ?_⟩
  rw [List.getElem?_set] at hx ⊢
  split at hx
  · rename_i hn
    rw [if_pos hn]
    split at hx
    · rename_i hl
      simp at hx; subst hx
      exact ⟨b, by rw [if_pos (by rw [← h.1]; exact hl)], r⟩
    · cases hx
  · rename_i hn
    rw [if_neg hn]; exact h.2 i x hx
theorem All2.replicate (n : Nat) {a : α} {b : β} (r : R a b) : All2 R (List.replicate n a) (List.replicate n b) := by
  refine ⟨by simp, fun i x hx => ?_⟩
  rw [List.getElem?_replicate] at hx ⊢
  split at hx
  · rename_i hl; simp at hx; subst hx; exact ⟨b, by rw [if_pos hl], r⟩
  · cases hx
theorem All2.refl {R : α → α → Prop} {l : List α} (h : ∀ a ∈ l, R a a) : All2 R l l :=
  ⟨rfl, fun _ a ha => ⟨a, ha, h a (List.mem_of_getElem? ha)⟩⟩
theorem All2.get {l : List α} {m : List β} (h : All2 R l m) (i : Nat) : (l[i]? = none ∧ m[i]? = none) ∨ ∃ a b, l[i]? = some a ∧ m[i]? = some b ∧ R a b := by
  cases e : l[i]? with
  | none =>
    left
    refine ⟨rfl, ?_⟩
    rw [List.getElem?_eq_none_iff] at e ⊢
    rw [← h.1]; exact e
  | some a => right; obtain ⟨b, hb, r⟩ := h.2 i a e; exact ⟨a, b, rfl, hb, r⟩
theorem All2.map {γ δ : Type} {S : γ → δ → Prop} {l : List α} {m : List β} {f : α → γ} {g : β → δ} (h : All2 R l m) (hr : ∀ a b, R a b → S (f a) (g b)) : All2 S (l.map f) (m.map g) := by
  refine ⟨by simp [h.1], fun i x hx => ?_⟩
  rw [List.getElem?_map] at hx ⊢
  rcases h.get i with ⟨e1, e2⟩ | ⟨a, b, e1, e2, r⟩
  · rw [e1] at hx; cases hx
  · rw [e1] at hx; simp at hx; subst hx; exact ⟨g b, by rw [e2]; rfl, hr a b r⟩
end

structure Pl where
  c : Nat
  s : Nat
  N : Nat

/-- Where blocks are; cells that nobody writes to any more, and what they hold. -/
structure Mu where
  f : Nat → Option Pl
  z : Nat → Nat → Option Value
instance : CoeFun Mu (fun _ => Nat → Option Pl) := ⟨Mu.f⟩

/-- Immutable data, and the model's value that holds it. -/
inductive DR (fz : Nat → Nat → Option Value) : Value → Value → Prop
  | plain {v : Value} : plain1 v = true → DR fz v v
  | nil {z : Value} {a : Option Addr} {k : Nat} : DR fz (dsl z []) (.slice a 0 k)
  | sl {z : Value} {xs : List Value} {c o n k : Nat} (val : Nat → Value) : xs.length = n → n ≤ k →
      (∀ i v, (flatN z xs)[i]? = some v → fz c (o + i) = some (val i)) → (∀ i v, (flatN z xs)[i]? = some v → DR fz v (val i)) → DR fz (dsl z xs) (.slice (some ⟨c, o, none⟩) n k)
theorem DR.mono {fz fz' : Nat → Nat → Option Value} (h : ∀ c i a, fz c i = some a → fz' c i = some a) {v v' : Value} (r : DR fz v v') : DR fz' v v' := by
  induction r with
  | plain e => exact .plain e
  | nil => exact .nil
  | sl val h2 h3 h5 _ ih => exact .sl val h2 h3 (fun i v hi => h _ _ _ (h5 i v hi)) ih
theorem not_plain_dsl {z : Value} {xs : List Value} : plain1 (dsl z xs) = false := rfl
theorem DR.inv {fz : Nat → Nat → Option Value} {z : Value} {xs : List Value} {v' : Value} (r : DR fz (dsl z xs) v') :
    (xs = [] ∧ ∃ a k, v' = .slice a 0 k) ∨ ∃ (c o k : Nat) (val : Nat → Value), v' = .slice (some ⟨c, o, none⟩) xs.length k ∧ xs.length ≤ k ∧
      (∀ i v, (flatN z xs)[i]? = some v → fz c (o + i) = some (val i)) ∧ (∀ i v, (flatN z xs)[i]? = some v → DR fz v (val i)) := by
  generalize hd : dsl z xs = d at r
  cases r with
  | plain e => subst hd; simp [not_plain_dsl] at e
  | nil =>
    simp [dsl] at hd
    exact .inl ⟨hd.2, _, _, rfl⟩
  | @sl z' xs' c o n k val h2 h3 h5 h6 =>
    simp [dsl] at hd
    obtain ⟨rfl, hx⟩ := hd
    subst hx; subst h2
    exact .inr ⟨c, o, k, val, rfl, h3, h5, h6⟩

/-- A token stands for any number of one rest: token i, for those that leave i % 4096 when divided by i / 4096. -/
def TokOk (i : Nat) (v : Value) : Prop := ∃ n : Int, v = .int .i64 n ∧ -9223372036854775808 ≤ n ∧ n ≤ 9223372036854775807 ∧ n % ((i / 4096 : Nat) : Int) = ((i % 4096 : Nat) : Int)

inductive VR0 (μ : Mu) : Value → Value → Prop
  | plain {v : Value} : plain1 v = true → VR0 μ v v
  | ptr {b o : Nat} {p : Pl} : μ b = some p → VR0 μ (.pointer (some ⟨b, o, none⟩)) (.pointer (some ⟨p.c, o + p.s, none⟩))
  | slice {b o : Nat} {p : Pl} {n k k' : Nat} : μ b = some p → n ≤ k' → ((UNK0 ≤ k ∧ o + p.s + k' * (k - UNK0) ≤ p.N) ∨ (k = k' ∧ k < UNK0)) →
      VR0 μ (.slice (some ⟨b, o, none⟩) n k) (.slice (some ⟨p.c, o + p.s, none⟩) n k')
  | slice0 {b o : Nat} {p : Pl} {a' : Addr} {k : Nat} : μ b = some p → UNK0 ≤ k ∨ k = 0 → VR0 μ (.slice (some ⟨b, o, none⟩) 0 k) (.slice (some a') 0 0)
  | map {b : Nat} {p : Pl} : μ b = some p → VR0 μ (.map (some b)) (.map (some p.c))
  | tok {i : Nat} {v : Value} : TokOk i v → VR0 μ (.chan (some i)) v
  | mark {v v' : Value} : VR0 μ v v' → markable v = true → VR0 μ (mk v) v'
  | deep {z : Value} {xs : List Value} {v' : Value} : DR μ.z (dsl z xs) v' → VR0 μ (dsl z xs) v'
  | osl {z : Value} {xs : List Value} {b q n k : Nat} {a : Option Addr} : DR μ.z (dsl z xs) (.slice a n k) → xs.length = n → (k = n ∨ q = 0 ∧ ∃ p c o, a = some ⟨c, o, none⟩ ∧ μ b = some p ∧ p.c = c ∧ p.s = o + n * z.cells.size ∧ o + k * z.cells.size ≤ p.N) →
      VR0 μ (Abs.osq z xs b q) (.slice a n k)
  | fptr {cs : List Value} {j c o : Nat} (val : Nat → Value) : (∀ i v, cs[i]? = some v → μ.z c (o + i) = some (val i)) → (∀ i v, cs[i]? = some v → VR0 μ v (val i)) →
      VR0 μ (fptr cs j) (.pointer (some ⟨c, o + j, none⟩))
  | rptr {b e i j : Nat} {p : Pl} : μ b = some p → VR0 μ (rptr b e i j) (.pointer (some ⟨p.c, p.s + i * e + j, none⟩))
  | mbool {b : Bool} : VR0 μ (mkb b) (.bool b)

inductive VR1 (μ : Mu) : Value → Value → Prop
  | zero {v v' : Value} : VR0 μ v v' → VR1 μ v v'
  | func {f : Fn} {a b a' b' : Array Value} : isYield f = false → All2 (VR0 μ) a.toList a'.toList → All2 (VR0 μ) b.toList b'.toList → VR1 μ (.func f a b) (.func f a' b')
  | iface {t : TypeId} {v v' : Value} : VR0 μ v v' → VR1 μ (.iface t v) (.iface t v')

inductive VRa (μ : Mu) : Value → Value → Prop
  | one {v v' : Value} : VR1 μ v v' → VRa μ v v'
  | agg {xs ys : Array Value} : All2 (VR1 μ) xs.toList ys.toList → VRa μ (.agg xs) (.agg ys)

inductive VR (μ : Mu) : Value → Value → Prop
  | a {v v' : Value} : VRa μ v v' → VR μ v v'
  | tup {xs ys : Array Value} : All2 (VRa μ) xs.toList ys.toList → VR μ (.tuple xs) (.tuple ys)
  | dead {v : Value} : VR μ dead v

structure Mu.le (μ μ' : Mu) : Prop where
  f : ∀ b p, μ b = some p → μ' b = some p
  z : ∀ c i a, μ.z c i = some a → μ'.z c i = some a
theorem Mu.le_refl (μ : Mu) : Mu.le μ μ := ⟨fun _ _ h => h, fun _ _ _ h => h⟩
theorem Mu.le_trans {μ μ' μ'' : Mu} (h : Mu.le μ μ') (h' : Mu.le μ' μ'') : Mu.le μ μ'' := ⟨fun b p e => h'.f b p (h.f b p e), fun c i a e => h'.z c i a (h.z c i a e)⟩

theorem VR0.mono {μ μ' : Mu} (h : Mu.le μ μ') {v v' : Value} (r : VR0 μ v v') : VR0 μ' v v' := by
  induction r with
  | mark _ hm ih => exact .mark ih hm
  | plain e => exact .plain e
  | ptr e => exact .ptr (h.f _ _ e)
  | slice e h1 h2 => exact .slice (h.f _ _ e) h1 h2
  | slice0 e1 e => exact .slice0 (h.f _ _ e1) e
  | map e => exact .map (h.f _ _ e)
  | tok e => exact .tok e
  | deep e => exact .deep (e.mono h.z)
  | osl e h1 h2 => exact .osl (e.mono h.z) h1 (h2.imp id fun ⟨hq, p, c, o, h3, h4, h5⟩ => ⟨hq, p, c, o, h3, h.f _ _ h4, h5⟩)
  | fptr val h2 _ ih => exact .fptr val (fun i v hi => h.z _ _ _ (h2 i v hi)) ih
  | rptr e => exact .rptr (h.f _ _ e)
  | mbool => exact .mbool
theorem VR1.mono {μ μ' : Mu} (h : Mu.le μ μ') {v v' : Value} (r : VR1 μ v v') : VR1 μ' v v' := by
  cases r with
  | zero e => exact .zero (e.mono h)
  | func e0 e1 e2 => exact .func e0 (e1.mono fun _ _ _ r => r.mono h) (e2.mono fun _ _ _ r => r.mono h)
  | iface e => exact .iface (e.mono h)
theorem VRa.mono {μ μ' : Mu} (h : Mu.le μ μ') {v v' : Value} (r : VRa μ v v') : VRa μ' v v' := by
  cases r with
  | one e => exact .one (e.mono h)
  | agg e => exact .agg (e.mono fun _ _ _ r => r.mono h)
theorem VR.mono {μ μ' : Mu} (h : Mu.le μ μ') {v v' : Value} (r : VR μ v v') : VR μ' v v' := by
  cases r with
  | a e => exact .a (e.mono h)
  | tup e => exact .tup (e.mono fun _ _ _ r => r.mono h)
  | dead => exact .dead

theorem vr_tok {μ : Mu} {i : Nat} {v : Value} (r : VR μ (.chan (some i)) v) : TokOk i v := by
  cases r with
  | a r => cases r with
    | one r => cases r with
      | zero r => cases r with
        | plain h => simp [Abs.plain1] at h
        | tok h => exact h
theorem VR0.refl_plain {μ : Mu} {v : Value} (h : plain1 v = true) : VR0 μ v v := .plain h
theorem VR1.refl_plain {μ : Mu} {v : Value} (h : plain1 v = true) : VR1 μ v v := .zero (.plain h)
theorem VR.one {μ : Mu} {v v' : Value} (h : VR1 μ v v') : VR μ v v' := .a (.one h)
theorem VR.zero {μ : Mu} {v v' : Value} (h : VR0 μ v v') : VR μ v v' := .a (.one (.zero h))
theorem VR.agg {μ : Mu} {xs ys : Array Value} (h : All2 (VR1 μ) xs.toList ys.toList) : VR μ (.agg xs) (.agg ys) := .a (.agg h)
theorem VR.plain1 {μ : Mu} {v : Value} (h : plain1 v = true) : VR μ v v := .zero (.plain h)
theorem VRa.refl_plain {μ : Mu} {v : Value} (h : plainV v = true) (ht : ∀ vs, v ≠ .tuple vs) : VRa μ v v := by
  cases v with
  | agg cs =>
    refine .agg (All2.refl fun a ha => .refl_plain ?_)
    simp only [plainV, List.all_eq_true] at h
    exact h a ha
  | tuple vs => exact absurd rfl (ht vs)
  | _ => exact .one (.refl_plain (by simpa [plainV] using h))
theorem VR.refl_plain {μ : Mu} {v : Value} (h : plainV v = true) : VR μ v v := by
  by_cases ht : ∃ vs, v = .tuple vs
  · obtain ⟨vs, rfl⟩ := ht
    simp only [plainV, Array.isEmpty_iff] at h
    subst h
    exact .tup (by simp; exact All2.nil)
  · exact .a (.refl_plain h fun vs e => ht ⟨vs, e⟩)
theorem plainA_spec {v : Value} (h : plainA v = true) : plainV v = true ∧ ∀ vs, v ≠ .tuple vs := by
  cases v with
  | tuple vs => simp [plainA, Abs.plain1] at h
  | agg cs => exact ⟨h, fun vs e => by cases e⟩
  | _ => exact ⟨h, fun vs e => by cases e⟩
theorem VR.undef (μ : Mu) : VR μ undef undef := .refl_plain rfl

theorem VR0.eq_of_plain {μ : Mu} {v v' : Value} (r : VR0 μ v v') (h : Abs.plain1 v = true) : v' = v := by
  cases r with
  | plain _ => rfl
  | ptr _ => simp [Abs.plain1] at h
  | slice _ _ _ => simp [Abs.plain1] at h
  | slice0 _ _ => simp [Abs.plain1] at h
  | map _ => simp [Abs.plain1] at h
  | tok _ => simp [Abs.plain1] at h
  | mark _ _ => simp [Abs.plain1, mk] at h
  | deep _ => simp [Abs.plain1, dsl] at h
  | osl _ _ _ => simp [Abs.plain1, Abs.osq] at h
  | fptr _ _ _ => simp [Abs.plain1, Abs.fptr] at h
  | rptr _ => simp [Abs.plain1, Abs.rptr] at h
  | mbool => simp [Abs.plain1, mkb] at h
theorem VR1.eq_of_plain {μ : Mu} {v v' : Value} (r : VR1 μ v v') (h : Abs.plain1 v = true) : v' = v := by
  cases r with
  | zero e => exact e.eq_of_plain h
  | func e0 e1 e2 =>
    simp only [Abs.plain1, Bool.and_eq_true, Array.isEmpty_iff] at h
    obtain ⟨rfl, rfl⟩ := h
    have h1 := e1.inv_nil
    have h2 := e2.inv_nil
    simp at h1 h2
    subst h1; subst h2; rfl
  | iface _ => simp [Abs.plain1] at h
theorem all2_eq_of_plain {μ : Mu} : ∀ {l m : List Value}, All2 (VR1 μ) l m → l.all Abs.plain1 = true → m = l
  | [], m, h, _ => h.inv_nil
  | a :: l, m, h, hp => by
    obtain ⟨b, m', rfl, r, hl⟩ := h.inv_cons
    simp only [List.all_cons, Bool.and_eq_true] at hp
    rw [r.eq_of_plain hp.1, all2_eq_of_plain hl hp.2]
theorem VRa.eq_of_plain {μ : Mu} {v v' : Value} (r : VRa μ v v') (h : plainV v = true) : v' = v := by
  cases r with
  | one e =>
    refine e.eq_of_plain ?_
    cases e with
    | zero e =>
      cases e <;> first | (simpa [plainV] using h) | skip
      · rename_i hp
        exact hp
      · simp [plainV, Abs.plain1, mk] at h
      · simp [plainV, Abs.plain1, dsl] at h
      · simp [plainV, Abs.plain1, Abs.osq] at h
      · simp [plainV, Abs.plain1, Abs.fptr] at h
      · simp [plainV, Abs.plain1, Abs.rptr] at h
      · simp [plainV, Abs.plain1, mkb] at h
    | _ => simpa [plainV] using h
  | agg e =>
    simp only [plainV] at h
    have := all2_eq_of_plain e h
    rw [Array.toList_inj] at this
    rw [this]
theorem VR.eq_of_plain {μ : Mu} {v v' : Value} (r : VR μ v v') (h : plainV v = true) : v' = v := by
  cases r with
  | a e => exact e.eq_of_plain h
  | tup e =>
    simp only [plainV, Array.isEmpty_iff] at h
    subst h
    have := e.inv_nil
    simp at this
    rw [this]
  | dead => simp [plainV, Abs.dead] at h

/-- One cell stays one cell. -/
theorem VR0.oneCell {μ : Mu} {v v' : Value} (r : VR0 μ v v') : v.oneCell' = true ∧ v'.oneCell' = true := by
  induction r with
  | plain h => rename_i v; cases v <;> simp_all [Abs.plain1, Value.oneCell']
  | tok h => obtain ⟨n, rfl, _⟩ := h; exact ⟨rfl, rfl⟩
  | mark _ _ ih => exact ⟨rfl, ih.2⟩
  | deep e => rcases e.inv with ⟨_, a, k, rfl⟩ | ⟨c, o, k, val, rfl, _⟩ <;> exact ⟨rfl, rfl⟩
  | _ => exact ⟨rfl, rfl⟩
theorem VR1.oneCell {μ : Mu} {v v' : Value} (r : VR1 μ v v') : v.oneCell' = true ∧ v'.oneCell' = true := by
  cases r with
  | zero e => exact e.oneCell
  | _ => exact ⟨rfl, rfl⟩
theorem VR.one_of_oneCell {μ : Mu} {v v' : Value} (r : VR μ v v') (h : v.oneCell' = true) : VR1 μ v v' := by
  cases r with
  | a e => cases e with
    | one e => exact e
    | agg _ => simp [Value.oneCell'] at h
  | tup _ => simp [Value.oneCell'] at h
  | dead => simp [Value.oneCell', Abs.dead] at h
theorem VR1.zero_of_basic {μ : Mu} {v v' : Value} (r : VR1 μ v v') (h : isBasic v = true) : VR0 μ v v' := by
  cases r with
  | zero e => exact e
  | @func f a b a' b' e0 e1 e2 =>
    have h : a = #[] ∧ b = #[] := by
      unfold isBasic at h
      split at h
      · rename_i he; cases he; simp [isYield] at e0
      · rename_i he; cases he; simpa only [Bool.and_eq_true, Array.isEmpty_iff] using h
      · rename_i he; cases he
      · rename_i he; cases he
      · rename_i he; cases he
      · rename_i h1 h2 h3 h4; exact absurd rfl (h1 _ _ _)
    obtain ⟨rfl, rfl⟩ := h
    have h1 := e1.inv_nil
    have h2 := e2.inv_nil
    simp at h1 h2
    subst h1; subst h2
    exact .plain rfl
  | iface _ => simp [isBasic] at h
theorem VR.zero_of_basic {μ : Mu} {v v' : Value} (r : VR μ v v') (h : isBasic v = true) : VR0 μ v v' := by
  refine (r.one_of_oneCell ?_).zero_of_basic h
  cases v <;> simp_all [isBasic, Value.oneCell']

/-- The cells of a value. -/
theorem cells_oneCell {v : Value} (h : v.oneCell' = true) : v.cells = #[v] := by
  cases v <;> simp_all [Value.oneCell', Value.cells]
theorem VRa.cells {μ : Mu} {v v' : Value} (r : VRa μ v v') : All2 (VR1 μ) v.cells.toList v'.cells.toList := by
  cases r with
  | one e =>
    rw [cells_oneCell e.oneCell.1, cells_oneCell e.oneCell.2]
    exact All2.cons e All2.nil
  | agg e => simpa [Value.cells] using e
theorem VR.cells {μ : Mu} {v v' : Value} (r : VR μ v v') (h : v.cells.toList.all Value.oneCell' = true) : All2 (VR1 μ) v.cells.toList v'.cells.toList := by
  cases r with
  | a e => exact e.cells
  | tup e => simp [Value.cells, Value.oneCell'] at h
  | dead => simp [Value.cells, Value.oneCell', Abs.dead] at h

/-- The slots. -/
def TR (μ : Mu) (l : List Value) (a : Array Value) : Prop := All2 (VR μ) l a.toList

theorem TR.getD {μ : Mu} {l : List Value} {a : Array Value} (h : TR μ l a) (t : Nat) : VR μ (l.getD t Go.undef) (a.getD t Go.undef) := by
  have := All2.get h t
  rw [List.getD_eq_getElem?_getD, Array.getD_eq_getD_getElem?]
  rcases this with ⟨e1, e2⟩ | ⟨u, v, e1, e2, r⟩
  · rw [Array.getElem?_toList] at e2; rw [e1, e2]; exact .undef μ
  · rw [Array.getElem?_toList] at e2; rw [e1, e2]; exact r
theorem TR.set {μ : Mu} {l : List Value} {a : Array Value} (h : TR μ l a) (t : Nat) {v v' : Value} (r : VR μ v v') : TR μ (l.set t v) (a.setIfInBounds t v') := by
  unfold TR
  rw [Array.toList_setIfInBounds]
  exact All2.set h t r
theorem TR.mono {μ μ' : Mu} (hm : Mu.le μ μ') {l : List Value} {a : Array Value} (h : TR μ l a) : TR μ' l a := All2.mono h fun _ _ _ r => r.mono hm
theorem TR.put {μ : Mu} {s : St} {a : Act} (h : TR μ s.tmps a.tmps) (dst : Option Tmp) {v v' : Value} (r : VR μ v v') : TR μ (s.put dst v) (a.put dst v').tmps := by
  cases dst with
  | none => exact h
  | some d => exact h.set d r

theorem eval_rel {μ : Mu} {l : List Value} {a : Act} (h : TR μ l a.tmps) {x : Operand} (hx : okOperand x = true) : VR μ (evA l x) (a.eval x) := by
  cases x with
  | tmp t => exact h.getD t
  | const v => exact .refl_plain hx
  | global g => simp [okOperand] at hx
  | func f => exact .refl_plain rfl

/-- Two readings of the operands. -/
def OpR (μ : Mu) (ρ ρ' : Operand → Value) (xs : List Operand) : Prop := ∀ x ∈ xs, VR μ (ρ x) (ρ' x)

theorem opR_of {μ : Mu} {l : List Value} {a : Act} (h : TR μ l a.tmps) {xs : List Operand} (hx : xs.all okOperand = true) : OpR μ (evA l) a.eval xs :=
  fun x hm => eval_rel h (List.all_eq_true.1 hx x hm)

theorem mark_notBool {μ : Mu} {v v' : Value} (r : VR0 μ v v') (hm : markable v = true) : ∀ b, v' ≠ .bool b := by
  intro b e
  subst e
  cases r <;> first | (simp [markable, mk, dsl, mkb] at hm; done) | skip

theorem wanted_rel {μ : Mu} {l : List Value} {a : Act} (h : TR μ l a.tmps) (ops : Array Oper) (o : Oper) (hl : liveG ops o l = true) : Region.wanted o (yielded ops a.tmps) = wantedA ops o l := by
  unfold Region.wanted wantedA
  unfold liveG at hl
  cases hgd : o.guard with
  | none => rfl
  | some g =>
    rw [hgd] at hl
    obtain ⟨j, want⟩ := g
    have : yielded ops a.tmps j = yieldedA ops l j := by
      unfold yielded yieldedA
      simp only at hl
      cases hdj : (ops[j]?).bind (·.dst) with
      | none => rfl
      | some t =>
        rw [hdj] at hl
        simp only [Option.bind_some] at hl ⊢
        rcases All2.get h t with ⟨e1, e2⟩ | ⟨u, v, e1, e2, r⟩
        · rw [Array.getElem?_toList] at e2; rw [e1, e2]
        · rw [Array.getElem?_toList] at e2; rw [e1, e2]
          rw [e1] at hl
          cases r with
          | dead => simp [knownV, Abs.dead] at hl
          | a e => cases e with
            | one e => cases e with
              | zero e => cases e with
                | plain hp => rfl
                | tok hp => obtain ⟨n, rfl, _⟩ := hp; rfl
                | mark hp hm =>
                  have := mark_notBool hp hm
                  cases v <;> first | rfl | exact absurd rfl (this _)
                | deep e => rcases e.inv with ⟨_, a, k, rfl⟩ | ⟨c, o, k, val, rfl, _⟩ <;> rfl
                | mbool => simp [knownV, mkb] at hl
                | _ => rfl
              | _ => rfl
            | agg _ => rfl
          | tup _ => rfl
    simp only [this]

end Go.Abs
