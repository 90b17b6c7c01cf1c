/-
  CALLS IN REGIONS OF OPEN ORDER, by contracts that tell just what is left: out of a contract of calls in order.
-/
import Derived.Test.YtgegjbapgccbaaaAbs52
import Derived.Test.YtgegjbapgccbaaaAbs49
namespace Go.Abs
open Go

/-- Places below a number. -/
def ltb (n : Nat) : Value → Bool
  | .pointer (some a) => decide (a.block < n)
  | .slice (some a) _ _ => decide (a.block < n)
  | .map (some b) => decide (b < n)
  | _ => true
noncomputable def lt0 (n : Nat) (v : Value) : Bool := ltb n (den v)
noncomputable def lt1 (n : Nat) (v : Value) : Bool := match v with
  | .func f a b => lt0 n v && (isYield f || (a.toList.all (lt0 n) && b.toList.all (lt0 n)))
  | .iface _ v => lt0 n v
  | v => lt0 n v
noncomputable def ltV (n : Nat) (v : Value) : Bool := match v with
  | .agg cs => cs.toList.all (lt1 n)
  | .tuple _ => false
  | v => lt1 n v
noncomputable def ltBlk (n : Nat) : Blk → Bool
  | .cells cs _ => cs.all (lt1 n)
  | .row _ _ => true
  | .map _ _ => false
noncomputable def Tr.allB (p : Blk → Bool) : Tr → Bool
  | .leaf => true
  | .node l v r => l.allB p && (match v with | some x => p x | none => true) && r.allB p
noncomputable def wfH (h : Hp) : Bool := h.tab.allB (ltBlk h.next)
theorem Tr.allB_get {p : Blk → Bool} : ∀ {t : Tr} {i : Nat} {x : Blk}, t.allB p = true → t.get i = some x → p x = true
  | .leaf, i, x, _, e => by cases e
  | .node l v r, i, x, h, e => by
    unfold Tr.allB at h
    simp only [Bool.and_eq_true] at h
    rw [Tr.get_eq] at e
    split at e
    · have e : v = some x := e
      subst e
      exact h.1.2
    · split at e
      · exact Tr.allB_get h.1.1 e
      · exact Tr.allB_get h.2 e
theorem wfH_get {h : Hp} (hw : wfH h = true) {b : Nat} {x : Blk} (e : h.get b = some x) : ltBlk h.next x = true := by
  unfold Hp.get at e
  split at e
  · exact Tr.allB_get hw e
  · cases e

def cut (μ : Mu) (n : Nat) : Mu := fun b => if b < n then μ b else none
theorem cut_le (μ : Mu) (n : Nat) : Mu.le (cut μ n) μ := by
  intro b p h
  unfold cut at h
  split at h
  · exact h
  · cases h
theorem cut_lt {μ : Mu} {n b : Nat} (h : b < n) : cut μ n b = μ b := if_pos h
section
variable {μ : Mu} {n : Nat}
theorem VR0.cut {v v' : Value} (h : VR0 μ v v') (hl : lt0 n v = true) : VR0 (cut μ n) v v' := by
  induction h with
  | plain hp => exact .plain hp
  | ptr hp => exact .ptr (by rw [cut_lt (of_decide_eq_true hl)]; exact hp)
  | slice hp h1 h2 => exact .slice (by rw [cut_lt (of_decide_eq_true hl)]; exact hp) h1 h2
  | slice0 hp h1 => exact .slice0 (by rw [cut_lt (of_decide_eq_true hl)]; exact hp) h1
  | map hp => exact .map (by rw [cut_lt (of_decide_eq_true hl)]; exact hp)
  | tok ht => exact .tok ht
  | mark r hm ih =>
    refine .mark (ih ?_) hm
    unfold lt0 at hl ⊢
    rw [den_mk hm] at hl
    rename_i w w'
    have : Abs.den w = w := by cases w <;> first | (simp [markable] at hm; done) | rfl
    rw [this]; exact hl
theorem all_cut {R R' : Value → Value → Prop} {p : Value → Bool} (hk : ∀ v v', R v v' → p v = true → R' v v') {l l' : List Value} (h : All2 R l l') (hp : l.all p = true) : All2 R' l l' := by
  refine ⟨h.1, fun i a ha => ?_⟩
  obtain ⟨b, hb, r⟩ := h.2 i a ha
  exact ⟨b, hb, hk a b r (List.all_eq_true.1 hp a (List.mem_of_getElem? ha))⟩
theorem lt1_lt0 {v : Value} (h : lt1 n v = true) (hi : ∀ t u, v ≠ .iface t u) : lt0 n v = true := by
  unfold lt1 at h
  split at h
  · simp only [Bool.and_eq_true] at h; exact h.1
  · exact absurd rfl (hi _ _)
  · exact h
theorem VR1.cut {v v' : Value} (h : VR1 μ v v') (hl : lt1 n v = true) : VR1 (cut μ n) v v' := by
  cases h with
  | zero r =>
    by_cases hi : ∃ t u, v = .iface t u
    · obtain ⟨t, u, rfl⟩ := hi
      cases r with
      | plain hp => exact .zero (.plain hp)
    · exact .zero (r.cut (lt1_lt0 hl fun t u e => hi ⟨t, u, e⟩))
  | func hf ha hb =>
    unfold lt1 at hl
    simp only [hf, Bool.false_or, Bool.and_eq_true] at hl
    exact .func hf (all_cut (fun _ _ r h => r.cut h) ha hl.2.1) (all_cut (fun _ _ r h => r.cut h) hb hl.2.2)
  | iface r => exact .iface (r.cut hl)
theorem VR.cut {v v' : Value} (h : VR μ v v') (hl : ltV n v = true) : VR (cut μ n) v v' := by
  cases h with
  | dead => exact .dead
  | tup hv => simp [ltV] at hl
  | a r =>
    cases r with
    | agg hv => exact .a (.agg (all_cut (fun _ _ r h => r.cut h) hv hl))
    | one r =>
      refine .a (.one ?_)
      by_cases hi : ∃ cs, v = .agg cs
      · obtain ⟨cs, rfl⟩ := hi
        cases r with
        | zero r => cases r with
          | plain hp => exact .zero (.plain hp)
      · refine r.cut ?_
        unfold ltV at hl
        split at hl
        · exact absurd ⟨_, rfl⟩ hi
        · cases hl
        · exact hl
theorem BR.cut {base : Nat} {w : World} {p : Pl} {x : Blk} (h : BR μ base w p x) (hl : ltBlk n x = true) : BR (cut μ n) base w p x := by
  cases x with
  | cells cs ro =>
    obtain ⟨arr, e, fr, h1, h2, h3, h4⟩ := h
    refine ⟨arr, e, fr, h1, h2, fun i v hv => ?_, h4⟩
    obtain ⟨v', h5, h6⟩ := h3 i v hv
    exact ⟨v', h5, h6.cut (List.all_eq_true.1 hl v (List.mem_of_getElem? hv))⟩
  | row r ro =>
    obtain ⟨arr, e, fr, h1, h2, h3, h4⟩ := h
    refine ⟨arr, e, fr, h1, h2, fun i v hv => ?_, h4⟩
    obtain ⟨v', h5, h6⟩ := h3 i v hv
    have hp : plain1 v = true := by
      have := List.mem_of_getElem? hv
      cases r with
      | ints k xs => obtain ⟨x, _, rfl⟩ := List.mem_map.1 this; rfl
      | bools xs => obtain ⟨x, _, rfl⟩ := List.mem_map.1 this; rfl
      | strs xs => obtain ⟨x, _, rfl⟩ := List.mem_map.1 this; rfl
      | pairs xs =>
        obtain ⟨x, _, hx⟩ := List.mem_flatMap.1 this
        rcases List.mem_cons.1 hx with rfl | hx
        · rfl
        · rw [List.mem_singleton.1 hx]; rfl
    rw [vr_plain_eq (.a (.one h6)) hp] at h5
    exact ⟨v, h5, .refl_plain hp⟩
  | map es ck => cases hl
end

/-- What just is left. -/
theorem funSem_of {P : Program} {f : FuncId} {args : List Value} {h h1 : Hp} {v1 : Value} {K : Value → Hp → Prop} (hwf : wfH h = true) (hwa : args.all (ltV h.next) = true) (hn : h.next ≤ h1.next)
    (hown : ∀ b x, b < h.next → h1.get b = some x → ∃ x0, h.get b = some x0 ∧ ownB x0 = ownB x) (hnew : ∀ b x, h.next ≤ b → h1.get b = some x → ownB x = true) (hkeep : ∀ {μ : Mu} {args' : Array Value}, All2 (VR μ) args args'.toList → Keeps μ h h1)
    (hc : CallSem P f args h fun v h' => v = v1 ∧ h' = h1) (hK : K v1 h1) : FunSem P f args h K := by
  refine ⟨v1, h1, hK, hn, fun {μ base w args'} hl hrel hfr => ?_⟩
  have hl0 : All2 (VR (cut μ h.next)) args args'.toList := all_cut (fun _ _ r h => r.cut h) hl hwa
  have hrel0 : Rel (cut μ h.next) base h.get w := by
    refine ⟨hrel.size, fun b p x hb hx => (hrel.blk b p x (cut_le _ _ b p hb) hx).cut (wfH_get hwf hx), fun b b' p p' x x' h1 h2 h3 h4 h5 h6 => ?_⟩
    exact hrel.inj b b' p p' x x' (cut_le _ _ b p h1) (cut_le _ _ b' p' h2) h3 h4 h5 h6
  have hfree : ∀ b, h.next ≤ b → cut μ h.next b = none := fun b hb => if_neg (by omega)
  have conv : ∀ {v' : Value} {w' : World}, (∃ v h' μ', (v = v1 ∧ h' = h1) ∧ COut (cut μ h.next) base h w v h' v' w' μ') → ∃ μ', Out μ base h w v1 h1 v' w' μ' := by
    rintro v' w' ⟨v, h', μ', ⟨rfl, rfl⟩, hq⟩
    have old : ∀ b, b < h.next → μ' b = μ b := fun b hb => by rw [hq.prot b hb, cut_lt hb]
    have hle : Mu.le μ' (fun b => if b < h'.next then μ' b else μ b) := by
      intro b p hb
      show (if b < h'.next then μ' b else μ b) = some p
      by_cases e : b < h'.next
      · rw [if_pos e]; exact hb
      · rw [hq.free b (by omega)] at hb; cases hb
    have at' : ∀ {b p x}, h'.get b = some x → (if b < h'.next then μ' b else μ b) = some p → μ' b = some p := by
      intro b p x hx hb
      rw [if_pos (Hp.lt_of_get hx)] at hb
      exact hb
    refine ⟨fun b => if b < h'.next then μ' b else μ b, hq.val.mono hle, ⟨fun b p hb => ?_, ⟨hq.rel.size, fun b p x hb hx => ?_, fun b b' p p' x x' k1 k2 k3 k4 k5 k6 => ?_⟩, ⟨hq.fr.os, hq.fr.tape, hq.fr.output, hq.fr.size, fun c hcl hno => ?_⟩, fun b p x hb hx => ?_⟩, hn, fun b hb => ?_, hkeep hl⟩
    · show (if b < h'.next then μ' b else μ b) = some p
      by_cases e : b < h'.next
      · rw [if_pos e]
        by_cases e2 : b < h.next
        · rw [old b e2]; exact hb
        · rw [hfr b (by omega) e] at hb; cases hb
      · rw [if_neg e]; exact hb
    · exact (hq.rel.blk b p x (at' hx hb) hx).keep hle rfl
    · exact hq.rel.inj b b' p p' x x' (at' k3 k1) (at' k4 k2) k3 k4 k5 k6
    · refine hq.fr.block c hcl fun b p x k1 k2 k3 => hno b p x (cut_le _ _ b p k1) k2 k3
    · by_cases e : b < h.next
      · obtain ⟨x0, hx0, ho⟩ := hown b x e hx
        exact .inr ⟨b, p, x0, by rw [← old b e]; exact at' hx hb, hx0, ho, rfl⟩
      · have ho := hnew b x (by omega) hx
        rcases hq.own b p x (at' hx hb) hx with h5 | ⟨b0, p0, x0, h5, h6, h7, h8⟩
        · exact .inl h5
        · exact .inr ⟨b0, p0, x0, cut_le _ _ b0 p0 h5, h6, by rw [h7 ho, ho], h8⟩
    · have hb : (if b < h'.next then μ' b else μ b) ≠ μ b := hb
      by_cases e : b < h'.next
      · rw [if_pos e] at hb
        refine ⟨?_, e⟩
        rcases Nat.lt_or_ge b h.next with e2 | e2
        · exact absurd (old b e2) hb
        · exact e2
      · rw [if_neg e] at hb; exact absurd rfl hb
  rcases hc hl0 hrel0 hfree with ⟨v', w', h2, h3⟩ | ⟨h2, h3⟩
  · exact .inl ⟨v', w', h2, conv h3⟩
  · refine .inr ⟨h2, h3.mono ?_⟩
    rintro en w' ⟨v', rfl, h4⟩
    exact ⟨v', rfl, conv h4⟩

/-- An outcome that just is told. -/
structure GOut (D : Type) where
  out : FOut D
  fn : D → out.R
def isPtrTo (b : Nat) : Value → Bool
  | .pointer (some a) => a.block == b && a.spot.isNone
  | _ => false
noncomputable def leaveOk (args : List Value) (h : Hp) : Rho → List Bool → List (Option Blk) → Bool
  | [], [], xs => xs.all fun x => match x with | some y => ownB y | none => true
  | b :: ρ, k :: ks, x :: xs => (match x with
    | some y => (match h.get b with | some x0 => ownB x0 == ownB y | none => false) && args.any (isPtrTo b)
    | none => k) && leaveOk args h ρ ks xs
  | _, _, _ => false
noncomputable def FSpec.draw (F : FSpec) (args : List Value) (h : Hp) (ρ : Rho) (r : F.R) (K : Value → Hp → Prop) : Prop :=
  match fillL (SA.fill (placeOf ρ h.next)) F.res (F.ofills r) with
  | some (vs, fs) => match fillL (blockFill (placeOf ρ h.next)) F.oblocks fs with
    | some (bs, _) => if leaveOk args h ρ (F.sh.blocks.map keptB) bs then K (resV vs) (putB h ρ (F.sh.blocks.map keptB) bs) else False
    | none => False
  | none => False
noncomputable def outsG (I : FIn) (args : List Value) (h : Hp) (K : Value → Hp → Prop) (d : I.D) : List (GOut I.D) → Prop
  | [] => True
  | O :: l => match l with
    | [] => O.out.pre d → (O.out.spec I).draw args h (I.rho args h) (O.fn d) K
    | _ => (O.out.pre d → (O.out.spec I).draw args h (I.rho args h) (O.fn d) K) ∧ outsG I args h K d l
noncomputable def gcon (I : FIn) (Os : List (GOut I.D)) (args : List Value) (h : Hp) (K : Value → Hp → Prop) : Prop :=
  match I.sh.mat true (I.rho args h) ⟨args, h⟩ with
  | some fs => if nodupB (I.rho args h) && ((I.rho args h).all fun b => decide (b < h.next)) && wfH h && args.all (ltV h.next) then ∃ d, I.fills d = fs ∧ I.pre d ∧ outsG I args h K d Os else False
  | none => False
theorem outsG_mem {I : FIn} {args : List Value} {h : Hp} {K : Value → Hp → Prop} {d : I.D} : ∀ {Os : List (GOut I.D)}, outsG I args h K d Os → ∀ O ∈ Os, O.out.pre d → (O.out.spec I).draw args h (I.rho args h) (O.fn d) K
  | [], _, O, hO => by cases hO
  | [O'], e, O, hO => by rw [List.mem_singleton.1 hO]; exact e
  | O' :: O'' :: l, e, O, hO => by
    unfold outsG at e
    rcases List.mem_cons.1 hO with rfl | hO
    · exact e.1
    · exact outsG_mem e.2 O hO
theorem leaveOk_len {args : List Value} {h : Hp} : ∀ {ρ : Rho} {ks : List Bool} {xs : List (Option Blk)}, leaveOk args h ρ ks xs = true → ρ.length = ks.length ∧ ρ.length ≤ xs.length ∧ ∀ i y, xs[ρ.length + i]? = some (some y) → ownB y = true
  | [], [], xs, e => ⟨rfl, Nat.zero_le _, fun i y hy => List.all_eq_true.1 e (some y) (List.mem_of_getElem? hy)⟩
  | b :: ρ, k :: ks, x :: xs, e => by
    simp only [leaveOk, Bool.and_eq_true] at e
    obtain ⟨h1, h2, h3⟩ := leaveOk_len e.2
    refine ⟨by rw [List.length_cons, List.length_cons, h1], by rw [List.length_cons, List.length_cons]; omega, fun i y hy => h3 i y ?_⟩
    rw [List.length_cons, show ρ.length + 1 + i = (ρ.length + i) + 1 by omega, List.getElem?_cons_succ] at hy
    exact hy
  | [], _ :: _, _, e => by simp [leaveOk] at e
  | _ :: _, [], _, e => by simp [leaveOk] at e
  | _ :: _, _ :: _, [], e => by simp [leaveOk] at e
theorem leaveOk_at {args : List Value} {h : Hp} : ∀ {ρ : Rho} {ks : List Bool} {xs : List (Option Blk)}, leaveOk args h ρ ks xs = true → ∀ (j b : Nat), ρ[j]? = some b →
    (∃ y x0, xs[j]? = some (some y) ∧ h.get b = some x0 ∧ ownB x0 = ownB y ∧ args.any (isPtrTo b) = true) ∨ (xs[j]? = some none ∧ ks[j]? = some true)
  | b0 :: ρ, k :: ks, x :: xs, e, j, b, hj => by
    simp only [leaveOk, Bool.and_eq_true] at e
    cases j with
    | zero =>
      simp only [List.getElem?_cons_zero, Option.some.injEq] at hj
      subst hj
      cases x with
      | none => exact .inr ⟨rfl, by have := e.1; simp at this; simp [this]⟩
      | some y =>
        have h1 := e.1
        simp only [Bool.and_eq_true] at h1
        cases hb : h.get b0 with
        | none => rw [hb] at h1; cases h1.1
        | some x0 => rw [hb] at h1; exact .inl ⟨y, x0, rfl, rfl, by simpa using h1.1, h1.2⟩
    | succ j =>
      simp only [List.getElem?_cons_succ] at hj ⊢
      exact leaveOk_at e.2 j b hj
  | [], [], _, _, j, b, hj => by simp at hj
  | [], _ :: _, _, e, _, _, _ => by simp [leaveOk] at e
  | _ :: _, [], _, e, _, _, _ => by simp [leaveOk] at e
  | _ :: _, _ :: _, [], e, _, _, _ => by simp [leaveOk] at e
theorem ptr_mu {μ : Mu} {b : Nat} : ∀ {args : List Value} {l : List Value}, All2 (VR μ) args l → args.any (isPtrTo b) = true → ∃ p, μ b = some p
  | [], _, _, h => by simp at h
  | a :: args, l, hl, h => by
    obtain ⟨v', l', rfl, r, hl⟩ := hl.inv_cons
    rw [List.any_cons, Bool.or_eq_true] at h
    rcases h with h | h
    · unfold isPtrTo at h
      split at h
      · rename_i ad
        simp only [Bool.and_eq_true, beq_iff_eq, Option.isNone_iff_eq_none] at h
        obtain ⟨ab, ao, asp⟩ := ad
        simp only at h
        obtain ⟨rfl, rfl⟩ := h
        obtain ⟨p, hp, _⟩ := r.inv_ptr
        exact ⟨p, hp⟩
      · cases h
    · exact ptr_mu hl h
theorem gcon_ok {P : Program} {f : FuncId} {I : FIn} {Os : List (GOut I.D)} (hone : ∀ d, I.pre d → ∃ O ∈ Os, O.out.pre d) (hfn : ∀ O ∈ Os, ∀ d r, O.out.post d r → r = O.fn d) (hO : ∀ O ∈ Os, ∀ args h K, (O.out.spec I).con args h K → CallSem P f args h K) :
    ∀ args h K, gcon I Os args h K → FunSem P f args h K := by
  intro args h K e
  unfold gcon at e
  split at e
  case h_2 => exact e.elim
  rename_i fs hm
  split at e
  case isFalse => exact e.elim
  rename_i hc
  simp only [Bool.and_eq_true] at hc
  obtain ⟨⟨⟨hnd, hlt⟩, hwf⟩, hwa⟩ := hc
  obtain ⟨d, hd, hpre, hK⟩ := e
  obtain ⟨O, hmem, hOd⟩ := hone d hpre
  have hdr := outsG_mem hK O hmem hOd
  unfold FSpec.draw at hdr
  split at hdr
  case h_2 => exact hdr.elim
  rename_i vs fs2 hvs
  split at hdr
  case h_2 => exact hdr.elim
  rename_i bs fs3 hbs
  split at hdr
  case isFalse => exact hdr.elim
  rename_i hok
  generalize hks : (O.out.spec I).sh.blocks.map keptB = ks at *
  generalize hρ : I.rho args h = ρ at *
  obtain ⟨l1, l2, l3⟩ := leaveOk_len hok
  have hlt' : ∀ b ∈ ρ, b < h.next := fun b hb => of_decide_eq_true (List.all_eq_true.1 hlt b hb)
  obtain ⟨i1, i2, i3, i4⟩ := putB_spec (ρ := ρ) (ks := ks) (xs := bs) (h := h) l1 (by omega) (nodupB_spec hnd) hlt'
  have hget : ∀ (j b : Nat), ρ[j]? = some b → (∃ y x0, (putB h ρ ks bs).get b = some y ∧ h.get b = some x0 ∧ ownB x0 = ownB y ∧ args.any (isPtrTo b) = true) ∨ (putB h ρ ks bs).get b = h.get b := by
    intro j b hj
    have h3 := i3 j b hj
    rcases leaveOk_at hok j b hj with ⟨y, x0, h4, h5, h6, h7⟩ | ⟨h4, h5⟩
    · rw [h4] at h3
      exact .inl ⟨y, x0, h3, h5, h6, h7⟩
    · rw [h4, h5] at h3
      exact .inr (by simpa using h3)
  refine funSem_of (v1 := resV vs) (h1 := putB h ρ ks bs) hwf hwa (by omega) (fun b x hb hx => ?_) (fun b x hb hx => ?_) (fun {μ args'} hl c hcl hμ => ?_) ?_ hdr
  · by_cases hm' : b ∈ ρ
    · obtain ⟨j, hj⟩ := List.mem_iff_getElem?.1 hm'
      rcases hget j b hj with ⟨y, x0, h4, h5, h6, _⟩ | h4
      · rw [h4] at hx
        simp only [Option.some.injEq] at hx; subst hx
        exact ⟨x0, h5, h6⟩
      · rw [h4] at hx; exact ⟨x, hx, rfl⟩
    · rw [i2 b hb hm'] at hx; exact ⟨x, hx, rfl⟩
  · have h4 := i4 (b - h.next)
    rw [show h.next + (b - h.next) = b by omega, hx] at h4
    refine l3 (b - h.next) x ?_
    cases e : bs[ρ.length + (b - h.next)]? with
    | none => rw [e] at h4; cases h4
    | some o => rw [e] at h4; simp at h4; rw [← h4]
  · by_cases hm' : c ∈ ρ
    · obtain ⟨j, hj⟩ := List.mem_iff_getElem?.1 hm'
      rcases hget j c hj with ⟨y, x0, h4, h5, h6, h7⟩ | h4
      · obtain ⟨p, hp⟩ := ptr_mu hl h7
        rw [hp] at hμ; cases hμ
      · exact h4
    · exact i2 c hcl hm'
  · refine hO O hmem args h _ ?_
    unfold FSpec.con
    show (match I.sh.mat true (I.rho args h) ⟨args, h⟩ with
      | some fs => if nodupB (I.rho args h) && (I.rho args h).all fun b => decide (b < h.next) then ∃ d, I.fills d = fs ∧ (I.pre d ∧ O.out.pre d) ∧ ∀ r, O.out.post d r → (O.out.spec I).leave h (I.rho args h) r (fun v h' => v = resV vs ∧ h' = putB h ρ ks bs) else False
      | none => False)
    rw [hρ, hm]
    simp only [hnd, hlt, Bool.and_self, if_true]
    refine ⟨d, hd, ⟨hpre, hOd⟩, fun r hr => ?_⟩
    rw [hfn O hmem d r hr]
    unfold FSpec.leave
    rw [hvs]
    simp only [hbs]
    rw [hks]
    exact ⟨trivial, rfl⟩
end Go.Abs
