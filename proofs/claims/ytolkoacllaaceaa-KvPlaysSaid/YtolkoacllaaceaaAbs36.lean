/-
  CONTRACTS: a function told by the shape of what it looks at and the shape of what it leaves.
-/
import Derived.Test.YtolkoacllaaceaaAbs35
namespace Go.Abs
open Go

section
variable {μ0 μ1 : Mu} {f : Nat → Nat}

structure RenOk (μ0 μ1 : Mu) (f : Nat → Nat) : Prop where
  f : ∀ j p, μ0 j = some p → μ1 (f j) = some p
  z : ∀ c i a, μ0.z c i = some a → μ1.z c i = some a
theorem VR0.inv_deep {μ : Mu} {z v' : Value} {xs : List Value} (h : VR0 μ (dsl z xs) v') : DR μ.z (dsl z xs) v' := deep_inv (v := dsl z xs) (by unfold asDeep dsl; rfl) (.zero h)
theorem VR0.inv_osl {μ : Mu} {z v' : Value} {xs : List Value} {b : Nat} (h : VR0 μ (Abs.osl z xs b) v') : ∃ a n k, v' = .slice a n k ∧ DR μ.z (dsl z xs) v' ∧ xs.length = n ∧ (k = n ∨ ∃ p c o, a = some ⟨c, o, none⟩ ∧ μ b = some p ∧ p.c = c ∧ p.s = o + n * z.cells.size ∧ o + k * z.cells.size ≤ p.N) := by
  generalize hg : Abs.osl z xs b = d at h
  cases h with
  | osl hd h1 h2 => simp [Abs.osl, Abs.osq] at hg; obtain ⟨⟨rfl, rfl, rfl⟩, h3⟩ := hg; subst h3; exact ⟨_, _, _, rfl, hd, h1, h2.imp id fun h => h.2⟩
  | plain hp => subst hg; simp [plain1, Abs.osl, Abs.osq] at hp
  | mark _ _ => simp [mk, Abs.osl, Abs.osq] at hg
  | deep _ => simp [dsl, Abs.osl, Abs.osq] at hg
  | fptr _ _ _ => simp [Abs.fptr, Abs.osl, Abs.osq] at hg
  | rptr _ => simp [Abs.rptr, Abs.osl, Abs.osq] at hg
  | mbool => simp [mkb, Abs.osl, Abs.osq] at hg
  | _ => cases hg
theorem ren0 (hμ : RenOk μ0 μ1 f) {s : S0} {fs r : List Filler} {v0 : Value} (h : s.fill id fs = some (v0, r)) : ∃ v1, s.fill f fs = some (v1, r) ∧ ∀ v', VR0 μ0 v0 v' → VR0 μ1 v1 v' := by
  have sl : ∀ {j o n k : Nat} {v' : Value}, VR0 μ0 (.slice (some ⟨j, o, none⟩) n k) v' → VR0 μ1 (.slice (some ⟨f j, o, none⟩) n k) v' := by
    intro j o n k v' r
    cases r with
    | slice hp h1 h2 => exact .slice (hμ.f _ _ hp) h1 h2
    | slice0 hp h1 => exact .slice0 (hμ.f _ _ hp) h1
    | plain hp => simp [plain1] at hp
  cases s with
  | lit u =>
    simp only [S0.fill] at h ⊢
    split at h
    · rename_i hp
      simp only [Option.some.injEq, Prod.mk.injEq] at h
      obtain ⟨rfl, rfl⟩ := h
      exact ⟨_, if_pos hp, fun v' r => by rw [r.eq_of_plain hp]; exact .plain hp⟩
    · cases h
  | hole =>
    cases fs with
    | nil => simp [S0.fill] at h
    | cons x fs =>
      cases x with
      | val v =>
        simp only [S0.fill] at h ⊢
        split at h
        · rename_i hs
          obtain ⟨hm, hp⟩ := isScal_mark hs
          simp only [Option.some.injEq, Prod.mk.injEq] at h
          obtain ⟨rfl, rfl⟩ := h
          refine ⟨_, if_pos hs, fun v' r => ?_⟩
          have h1 := r.den
          rw [den_mk hm] at h1
          rw [h1.eq_of_plain hp]
          exact .mark (.plain hp) hm
        · cases h
      | row _ => simp [S0.fill] at h
      | sl _ _ => simp [S0.fill] at h
      | dl _ => simp [S0.fill] at h
  | ptr j o =>
    simp only [S0.fill, id, Option.some.injEq, Prod.mk.injEq] at h ⊢
    obtain ⟨rfl, rfl⟩ := h
    refine ⟨_, ⟨rfl, rfl⟩, fun v' r => ?_⟩
    cases r with
    | ptr hp => exact .ptr (hμ.f _ _ hp)
    | plain hp => simp [plain1] at hp
  | sl j cap =>
    cases fs with
    | nil => simp [S0.fill] at h
    | cons x fs =>
      cases x with
      | sl o n =>
        simp only [S0.fill, id, Option.some.injEq, Prod.mk.injEq] at h ⊢
        obtain ⟨rfl, rfl⟩ := h
        refine ⟨_, ⟨rfl, rfl⟩, fun v' r => ?_⟩
        cases r with
        | mark r hm => exact .mark (sl r) rfl
        | plain hp => simp [plain1, mk] at hp
      | row _ => simp [S0.fill] at h
      | val _ => simp [S0.fill] at h
      | dl _ => simp [S0.fill] at h
  | csl j o n cap =>
    simp only [S0.fill, id, Option.some.injEq, Prod.mk.injEq] at h ⊢
    obtain ⟨rfl, rfl⟩ := h
    exact ⟨_, ⟨rfl, rfl⟩, fun v' r => sl r⟩
  | map j =>
    simp only [S0.fill, id, Option.some.injEq, Prod.mk.injEq] at h ⊢
    obtain ⟨rfl, rfl⟩ := h
    refine ⟨_, ⟨rfl, rfl⟩, fun v' r => ?_⟩
    cases r with
    | map hp => exact .map (hμ.f _ _ hp)
    | plain hp => simp [plain1] at hp
  | deep z =>
    cases fs with
    | nil => simp [S0.fill] at h
    | cons x fs =>
      cases x with
      | dl xs =>
        simp only [S0.fill, Option.some.injEq, Prod.mk.injEq] at h ⊢
        obtain ⟨rfl, rfl⟩ := h
        exact ⟨_, ⟨rfl, rfl⟩, fun v' r => .deep (r.inv_deep.mono hμ.z)⟩
      | _ => simp [S0.fill] at h
  | osl j z =>
    cases fs with
    | nil => simp [S0.fill] at h
    | cons x fs =>
      cases x with
      | dl xs =>
        simp only [S0.fill, id, Option.some.injEq, Prod.mk.injEq] at h ⊢
        obtain ⟨rfl, rfl⟩ := h
        refine ⟨_, ⟨rfl, rfl⟩, fun v' r => ?_⟩
        obtain ⟨a, n, k, rfl, h1, h2, h3⟩ := r.inv_osl
        exact .osl (h1.mono hμ.z) h2 (h3.imp id fun ⟨p, c, o, h4, h5, h6⟩ => ⟨rfl, p, c, o, h4, hμ.f _ _ h5, h6⟩)
      | _ => simp [S0.fill] at h
  | boo =>
    cases fs with
    | nil => simp [S0.fill] at h
    | cons x fs =>
      cases x with
      | val v =>
        simp only [S0.fill, Option.some.injEq, Prod.mk.injEq] at h ⊢
        obtain ⟨rfl, rfl⟩ := h
        exact ⟨_, ⟨rfl, rfl⟩, fun v' r => by rw [mkb_inv (f := #[.bool (dbool v)]) (y := #[]) rfl r]; exact .mbool⟩
      | _ => simp [S0.fill] at h

theorem renL {α β : Type} {F G : α → List Filler → Option (β × List Filler)} {R : β → β → Prop} (hok : ∀ (a : α) (fs r : List Filler) (v0 : β), F a fs = some (v0, r) → ∃ v1, G a fs = some (v1, r) ∧ R v0 v1) :
    ∀ {l : List α} {fs r : List Filler} {l0 : List β}, fillL F l fs = some (l0, r) → ∃ l1, fillL G l fs = some (l1, r) ∧ All2 R l0 l1
  | [], fs, r, l0, h => by
    simp only [fillL, Option.some.injEq, Prod.mk.injEq] at h
    obtain ⟨rfl, rfl⟩ := h
    exact ⟨[], rfl, All2.nil⟩
  | a :: l, fs, r, l0, h => by
    unfold fillL at h ⊢
    split at h
    · rename_i b fs1 hb
      split at h
      · rename_i bs fs2 hbs
        simp only [Option.some.injEq, Prod.mk.injEq] at h
        obtain ⟨rfl, rfl⟩ := h
        obtain ⟨v1, h1, h2⟩ := hok _ _ _ _ hb
        obtain ⟨l1, h3, h4⟩ := renL hok hbs
        rw [h1]
        simp only [h3]
        exact ⟨_, rfl, All2.cons h2 h4⟩
      · cases h
    · cases h
theorem all2_ren {R R' : Value → Value → Prop} {l0 l1 : List Value} (h : All2 (fun v0 v1 => ∀ v', R v0 v' → R' v1 v') l0 l1) {vs : List Value} (hv : All2 R l0 vs) : All2 R' l1 vs := by
  refine ⟨by rw [← h.1, hv.1], fun i v hi => ?_⟩
  rcases h.get i with ⟨_, e⟩ | ⟨a, b, e1, e2, r⟩
  · rw [hi] at e; cases e
  · rw [hi] at e2; simp at e2; subst e2
    obtain ⟨v', h1, h2⟩ := hv.2 i a e1
    exact ⟨v', h1, r v' h2⟩

theorem ren0b {s : S0} {fs r : List Filler} {v0 : Value} (h : s.fill id fs = some (v0, r)) : (plain1 v0 = true ∧ s.fill f fs = some (v0, r)) ∨ isBasic v0 = true := by
  cases s with
  | lit u =>
    simp only [S0.fill] at h ⊢
    split at h
    · rename_i hp
      simp only [Option.some.injEq, Prod.mk.injEq] at h
      obtain ⟨rfl, rfl⟩ := h
      exact .inl ⟨hp, if_pos hp⟩
    · cases h
  | hole =>
    right
    unfold S0.fill at h
    repeat' split at h
    all_goals first
      | (cases h; done)
      | (simp only [Option.some.injEq, Prod.mk.injEq] at h; obtain ⟨rfl, rfl⟩ := h; rfl)
      | skip
    all_goals simp_all
  | ptr j o => simp only [S0.fill, Option.some.injEq, Prod.mk.injEq] at h; obtain ⟨rfl, rfl⟩ := h; exact .inr rfl
  | csl j o n cap => simp only [S0.fill, Option.some.injEq, Prod.mk.injEq] at h; obtain ⟨rfl, rfl⟩ := h; exact .inr rfl
  | map j => simp only [S0.fill, Option.some.injEq, Prod.mk.injEq] at h; obtain ⟨rfl, rfl⟩ := h; exact .inr rfl
  | sl j cap =>
    right
    cases fs with
    | nil => simp [S0.fill] at h
    | cons x fs =>
      cases x <;> simp [S0.fill] at h
      obtain ⟨rfl, rfl⟩ := h; rfl
  | deep z =>
    right
    cases fs with
    | nil => simp [S0.fill] at h
    | cons x fs =>
      cases x <;> simp [S0.fill] at h
      obtain ⟨rfl, rfl⟩ := h; rfl
  | osl j z =>
    right
    cases fs with
    | nil => simp [S0.fill] at h
    | cons x fs =>
      cases x <;> simp [S0.fill] at h
      obtain ⟨rfl, rfl⟩ := h; rfl
  | boo =>
    right
    cases fs with
    | nil => simp [S0.fill] at h
    | cons x fs =>
      cases x <;> simp [S0.fill] at h
      obtain ⟨rfl, rfl⟩ := h; rfl

theorem ren1 (hμ : RenOk μ0 μ1 f) {s : S1} {fs r : List Filler} {v0 : Value} (h : s.fill id fs = some (v0, r)) : ∃ v1, s.fill f fs = some (v1, r) ∧ ∀ v', VR1 μ0 v0 v' → VR1 μ1 v1 v' := by
  cases s with
  | zero s =>
    have h : s.fill id fs = some (v0, r) := h
    rcases ren0b (f := f) h with ⟨hp, h1⟩ | hb
    · exact ⟨v0, h1, fun v' r => by rw [r.eq_of_plain hp]; exact .refl_plain hp⟩
    · obtain ⟨v1, h1, h2⟩ := ren0 hμ h
      exact ⟨v1, h1, fun v' r => .zero (h2 v' (r.zero_of_basic hb))⟩
  | func g a b =>
    unfold S1.fill at h ⊢
    simp only at h ⊢
    split at h
    case isTrue => cases h
    rename_i hyi
    rw [if_neg hyi]
    split at h
    · rename_i x fs1 hx
      split at h
      · rename_i y fs2 hy
        simp only [Option.some.injEq, Prod.mk.injEq] at h
        obtain ⟨rfl, rfl⟩ := h
        obtain ⟨l1, h1, h2⟩ := renL (F := S0.fill id) (G := S0.fill f) (R := fun v0 v1 => ∀ v', VR0 μ0 v0 v' → VR0 μ1 v1 v') (fun s fs r v0 h => ren0 hμ h) hx
        obtain ⟨l2, h3, h4⟩ := renL (F := S0.fill id) (G := S0.fill f) (R := fun v0 v1 => ∀ v', VR0 μ0 v0 v' → VR0 μ1 v1 v') (fun s fs r v0 h => ren0 hμ h) hy
        rw [h1]
        simp only [h3]
        refine ⟨_, rfl, fun v' r => ?_⟩
        cases r with
        | func h0 h5 h6 => exact .func h0 (all2_ren h2 h5) (all2_ren h4 h6)
        | zero r =>
          cases r with
          | plain hp =>
            simp only [plain1, Bool.and_eq_true, Array.isEmpty_iff] at hp
            obtain ⟨e1, e2⟩ := hp
            have e1 : x = [] := by simpa using e1
            have e2 : y = [] := by simpa using e2
            subst e1; subst e2
            have := h2.inv_nil; subst this
            have := h4.inv_nil; subst this
            exact .refl_plain rfl
          | mark r hm => simp [isYield] at hyi
          | deep _ => simp [isYield] at hyi
          | osl _ _ _ => simp [isYield] at hyi
          | fptr _ _ _ => simp [isYield] at hyi
          | rptr _ => simp [isYield] at hyi
          | mbool => simp [isYield] at hyi
      · cases h
    · cases h
  | iface t s =>
    unfold S1.fill at h ⊢
    simp only at h ⊢
    split at h
    · rename_i v fs1 hv
      simp only [Option.some.injEq, Prod.mk.injEq] at h
      obtain ⟨rfl, rfl⟩ := h
      obtain ⟨v1, h1, h2⟩ := ren0 hμ hv
      rw [h1]
      refine ⟨_, rfl, fun v' r => ?_⟩
      cases r with
      | iface r => exact .iface (h2 _ r)
      | zero r => cases r with
        | plain hp => simp [plain1] at hp
    · cases h

theorem renA (hμ : RenOk μ0 μ1 f) {s : SA} {fs r : List Filler} {v0 : Value} (h : s.fill id fs = some (v0, r)) : ∃ v1, s.fill f fs = some (v1, r) ∧ ∀ v', VRa μ0 v0 v' → VRa μ1 v1 v' := by
  cases s with
  | one s =>
    have h : s.fill id fs = some (v0, r) := h
    obtain ⟨v1, h1, h2⟩ := ren1 hμ h
    refine ⟨v1, h1, fun v' r' => .one (h2 v' ?_)⟩
    cases r' with
    | one r => exact r
    | agg _ =>
      exfalso
      cases s with
      | zero s =>
        have h : s.fill id fs = _ := h
        rcases ren0b (f := f) h with ⟨hp, _⟩ | hb
        · simp [plain1] at hp
        · simp [isBasic] at hb
      | func g a b =>
        unfold S1.fill at h
        simp only at h
        repeat' split at h
        all_goals first | (cases h; done) | simp at h
      | iface t s =>
        unfold S1.fill at h
        simp only at h
        repeat' split at h
        all_goals first | (cases h; done) | simp at h
  | agg l =>
    unfold SA.fill at h ⊢
    simp only at h ⊢
    split at h
    · rename_i x fs1 hx
      simp only [Option.some.injEq, Prod.mk.injEq] at h
      obtain ⟨rfl, rfl⟩ := h
      obtain ⟨l1, h1, h2⟩ := renL (F := S1.fill id) (G := S1.fill f) (R := fun v0 v1 => ∀ v', VR1 μ0 v0 v' → VR1 μ1 v1 v') (fun s fs r v0 h => ren1 hμ h) hx
      rw [h1]
      refine ⟨_, rfl, fun v' r => ?_⟩
      obtain ⟨ys, rfl, hys⟩ := (VR.a r).inv_agg
      exact .agg (all2_ren h2 hys)
    · cases h

theorem renB (hμ : RenOk μ0 μ1 f) {s : SB} {fs r : List Filler} {x0 : Blk} (h : s.fill id fs = some (x0, r)) : ∃ x1, s.fill f fs = some (x1, r) ∧ (∀ {base : Nat} {w : World} {p : Pl}, BR μ0 base w p x0 → BR μ1 base w p x1) ∧ ownB x1 = ownB x0 := by
  cases s with
  | cells l ro =>
    unfold SB.fill at h ⊢
    simp only at h ⊢
    split at h
    · rename_i x fs1 hx
      simp only [Option.some.injEq, Prod.mk.injEq] at h
      obtain ⟨rfl, rfl⟩ := h
      obtain ⟨l1, h1, h2⟩ := renL (F := S1.fill id) (G := S1.fill f) (R := fun v0 v1 => ∀ v', VR1 μ0 v0 v' → VR1 μ1 v1 v') (fun s fs r v0 h => ren1 hμ h) hx
      rw [h1]
      refine ⟨_, rfl, fun {base w p} hb => ?_, rfl⟩
      obtain ⟨arr, e, fr, h3, h4, h5, h6⟩ := hb
      refine ⟨arr, e, fr, h3, h4, fun i v hi => ?_, fun h => by rw [← h2.1]; exact h6 h⟩
      rcases h2.get i with ⟨_, e⟩ | ⟨a, b, e1, e2, r⟩
      · rw [hi] at e; cases e
      · rw [hi] at e2; simp at e2; subst e2
        obtain ⟨v', h7, h8⟩ := h5 i a e1
        exact ⟨v', h7, r v' h8⟩
    · cases h
  | row like ro =>
    unfold SB.fill at h ⊢
    simp only at h ⊢
    split at h
    · rename_i rr fs1
      simp only [Option.some.injEq, Prod.mk.injEq] at h
      obtain ⟨rfl, rfl⟩ := h
      refine ⟨_, rfl, fun {base w p} hb => ?_, rfl⟩
      obtain ⟨arr, e, fr, h3, h4, h5, h6⟩ := hb
      refine ⟨arr, e, fr, h3, h4, fun i v hi => ?_, h6⟩
      obtain ⟨v', h7, h8⟩ := h5 i v hi
      exact ⟨v', h7, row_keep hμ.z (List.mem_of_getElem? hi) h8⟩
    · cases h
  | tok =>
    have h : some (Blk.cells [] false, fs) = some (x0, r) := h
    simp only [Option.some.injEq, Prod.mk.injEq] at h
    obtain ⟨rfl, rfl⟩ := h
    refine ⟨.cells [] false, rfl, fun {base w p} hb => ?_, rfl⟩
    obtain ⟨arr, e, fr, h3, h4, h5, h6⟩ := hb
    exact ⟨arr, e, fr, h3, h4, fun i v hi => by simp at hi, h6⟩
  | map l ck =>
    unfold SB.fill at h ⊢
    simp only at h ⊢
    split at h
    · rename_i x fs1 hx
      simp only [Option.some.injEq, Prod.mk.injEq] at h
      obtain ⟨rfl, rfl⟩ := h
      obtain ⟨l1, h1, h2⟩ := renL (F := entryFill id) (G := entryFill f) (R := fun (e0 e1 : MapEntry) => e1.key = e0.key ∧ e1.born = e0.born ∧ ∀ v', VRa μ0 e0.val v' → VRa μ1 e1.val v') (fun s fs r v0 h => by
        unfold entryFill at h ⊢
        split at h
        · rename_i v fs1 hv
          simp only [Option.some.injEq, Prod.mk.injEq] at h
          obtain ⟨rfl, rfl⟩ := h
          obtain ⟨v1, h1, h2⟩ := renA hμ hv
          rw [h1]
          exact ⟨_, rfl, rfl, rfl, h2⟩
        · cases h) hx
      rw [h1]
      refine ⟨_, rfl, fun {base w p} hb => ?_, rfl⟩
      obtain ⟨es', h3, h4, h5⟩ := hb
      refine ⟨es', h3, ⟨by rw [← h2.1, h4.1], fun i e hi => ?_⟩, h5⟩
      rcases h2.get i with ⟨_, e⟩ | ⟨a, b, e1, e2, r⟩
      · rw [hi] at e; cases e
      · rw [hi] at e2; simp at e2; subst e2
        obtain ⟨e', h7, h8⟩ := h4.2 i a e1
        exact ⟨e', h7, ⟨by rw [h8.key, r.1], by rw [h8.born, r.2.1], r.2.2 _ h8.val⟩⟩
    · cases h

theorem renBs (hμ : RenOk μ0 μ1 f) {l : List (Option SB)} {fs r : List Filler} {l0 : List (Option Blk)} (h : fillL (blockFill id) l fs = some (l0, r)) : ∃ l1, fillL (blockFill f) l fs = some (l1, r) ∧
    All2 (fun x0 x1 => (x0 = none ∧ x1 = none) ∨ ∃ y0 y1, x0 = some y0 ∧ x1 = some y1 ∧ (∀ {base : Nat} {w : World} {p : Pl}, BR μ0 base w p y0 → BR μ1 base w p y1) ∧ ownB y1 = ownB y0) l0 l1 :=
  renL (F := blockFill id) (G := blockFill f) (R := fun x0 x1 => (x0 = none ∧ x1 = none) ∨ ∃ y0 y1, x0 = some y0 ∧ x1 = some y1 ∧ (∀ {base : Nat} {w : World} {p : Pl}, BR μ0 base w p y0 → BR μ1 base w p y1) ∧ ownB y1 = ownB y0) (fun s fs r v0 h => by
    unfold blockFill at h ⊢
    split at h
    · simp only [Option.some.injEq, Prod.mk.injEq] at h
      obtain ⟨rfl, rfl⟩ := h
      exact ⟨_, rfl, .inl ⟨rfl, rfl⟩⟩
    · split at h
      · rename_i x fs1 hx
        simp only [Option.some.injEq, Prod.mk.injEq] at h
        obtain ⟨rfl, rfl⟩ := h
        obtain ⟨x1, h1, h2, h3⟩ := renB hμ hx
        simp only [h1]
        exact ⟨_, rfl, .inr ⟨_, _, rfl, rfl, h2, h3⟩⟩
      · cases h) h
end

noncomputable section
/-- A function's contract. -/
structure FSpec where
  D : Type
  sh : Shape
  rho : List Value → Hp → Rho
  fills : D → List Filler
  pre : D → Prop
  R : Type
  res : List SA
  oblocks : List (Option SB)
  orho : List Value → Hp → Rho
  ofills : R → List Filler
  post : D → R → Prop

def keptB : Option SB → Bool
  | some (.cells _ ro) => ro
  | some (.row _ ro) => ro
  | _ => false
def newB : Option SB → Bool
  | some (.cells _ ro) => !ro
  | some (.row _ ro) => !ro
  | _ => true
def placeOf (ρ : Rho) (n : Nat) (j : Nat) : Nat := if j < ρ.length then ρ.getD j 0 else n + (j - ρ.length)

def footP (h : Hp) (b : Nat) (kp : Bool) (x : Option Blk) : Hp :=
  match x with
  | some y => h.put b (some y)
  | none => if kp then h else h.put b none
/-- What the function looked at, as it left it; then what it made. -/
def putB : Hp → Rho → List Bool → List (Option Blk) → Hp
  | h, [], _, xs => h.from xs
  | h, b :: ρ, kp :: ks, x :: xs => putB (footP h b kp x) ρ ks xs
  | h, _, _, _ => h

def resV (l : List Value) : Value := match l with | [v] => v | vs => .tuple vs.toArray
def resL (v : Value) : Option (List Value) :=
  match v with
  | .tuple vs => if vs.size = 1 then none else some vs.toList
  | v => some [v]

def FSpec.leave (F : FSpec) (h : Hp) (ρ : Rho) (r : F.R) (K : Value → Hp → Prop) : Prop :=
  match fillL (SA.fill (placeOf ρ h.next)) F.res (F.ofills r) with
  | some (vs, fs) => match fillL (blockFill (placeOf ρ h.next)) F.oblocks fs with
    | some (bs, _) => K (resV vs) (putB h ρ (F.sh.blocks.map keptB) bs)
    | none => False
  | none => False
def FSpec.con (F : FSpec) (args : List Value) (h : Hp) (K : Value → Hp → Prop) : Prop :=
  match F.sh.matD (deepV h (fun _ => false) 6) true (F.rho args h) ⟨args, h⟩ with
  | some fs => if nodupB (F.rho args h) && (F.rho args h).all fun b => decide (b < h.next) then ∃ d, F.fills d = fs ∧ F.pre d ∧ ∀ r, F.post d r → F.leave h (F.rho args h) r K else False
  | none => False
/-- What is asked at the end of the function's text. -/
def FSpec.done (F : FSpec) (d : F.D) (v : Value) (h : Hp) : Prop :=
  match resL v with
  | some vs => match matL (SA.mat (deepV h (okF (F.orho vs h)) 6) (F.orho vs h)) F.res vs, blocksMat (deepV h (okF (F.orho vs h)) 6) false (F.orho vs h) h F.oblocks (F.orho vs h) with
    | some x, some y => if headOk F.sh.blocks.length (F.orho vs h) && nodupB (F.orho vs h) && (F.oblocks.drop F.sh.blocks.length).all newB then ∃ r, F.ofills r = x ++ y ∧ F.post d r else False
    | _, _ => False
  | none => False
end

theorem putB_spec : ∀ {ρ : Rho} {ks : List Bool} {xs : List (Option Blk)} {h : Hp}, ρ.length = ks.length → ρ.length ≤ xs.length → ρ.Nodup → (∀ b ∈ ρ, b < h.next) →
    (putB h ρ ks xs).next = h.next + (xs.length - ρ.length) ∧
    (∀ b, b < h.next → b ∉ ρ → (putB h ρ ks xs).get b = h.get b) ∧
    (∀ (j b : Nat), ρ[j]? = some b → (putB h ρ ks xs).get b = match (xs[j]?).join with | some y => some y | none => if ks[j]? = some true then h.get b else none) ∧
    (∀ i, (putB h ρ ks xs).get (h.next + i) = (xs[ρ.length + i]?).join)
  | [], ks, xs, h, _, _, _, _ => by
    unfold putB
    refine ⟨by rw [Hp.from_next]; simp, fun b hb _ => by rw [Hp.from_get, if_pos hb], fun j b hj => by simp at hj, fun i => ?_⟩
    rw [Hp.from_get, if_neg (by omega)]; simp
  | b :: ρ, [], xs, h, hl, _, _, _ => by simp at hl
  | b :: ρ, kp :: ks, [], h, _, hx, _, _ => by simp at hx
  | b :: ρ, kp :: ks, x :: xs, h, hl, hx, hnd, hlt => by
    rw [List.nodup_cons] at hnd
    have hb := hlt b List.mem_cons_self
    have hn1 : (footP h b kp x).next = h.next := by
      unfold footP
      cases x with
      | some y => rfl
      | none => cases kp <;> rfl
    have hg1 : ∀ c, c ≠ b → (footP h b kp x).get c = h.get c := by
      intro c hc
      unfold footP
      cases x with
      | some y => simp only; rw [Hp.get_put _ _ _ _ hb, if_neg hc]
      | none =>
        cases kp
        · simp only [Bool.false_eq_true, if_false]; rw [Hp.get_put _ _ _ _ hb, if_neg hc]
        · rfl
    have hgb : (footP h b kp x).get b = match x with | some y => some y | none => if kp = true then h.get b else none := by
      unfold footP
      cases x with
      | some y => simp only; rw [Hp.get_put _ _ _ _ hb, if_pos rfl]
      | none =>
        cases kp
        · simp only [Bool.false_eq_true, if_false]; rw [Hp.get_put _ _ _ _ hb, if_pos rfl]
        · rfl
    obtain ⟨i1, i2, i3, i4⟩ := putB_spec (ρ := ρ) (ks := ks) (xs := xs) (h := footP h b kp x) (by simpa using hl) (by simpa using hx) hnd.2 (fun c hc => by rw [hn1]; exact hlt c (List.mem_cons_of_mem _ hc))
    have hput : putB h (b :: ρ) (kp :: ks) (x :: xs) = putB (footP h b kp x) ρ ks xs := rfl
    rw [hput]
    refine ⟨by rw [i1, hn1]; simp, fun c hc hm => ?_, fun j c hj => ?_, fun i => ?_⟩
    · rw [i2 c (by rw [hn1]; exact hc) (fun h => hm (List.mem_cons_of_mem _ h)), hg1 c (fun e => hm (e ▸ List.mem_cons_self))]
    · cases j with
      | zero =>
        simp at hj; subst hj
        rw [i2 b (by rw [hn1]; exact hb) hnd.1, hgb]
        simp only [List.getElem?_cons_zero]
        cases x with
        | some y => rfl
        | none => simp
      | succ j =>
        have hj' : ρ[j]? = some c := by simpa using hj
        have hcb : c ≠ b := fun e => hnd.1 (e ▸ List.mem_of_getElem? hj')
        rw [i3 j c hj', hg1 c hcb]
        simp only [List.getElem?_cons_succ]
    · have := i4 i
      rw [hn1] at this
      rw [this, List.length_cons, show ρ.length + 1 + i = (ρ.length + i) + 1 from by omega, List.getElem?_cons_succ]
end Go.Abs
