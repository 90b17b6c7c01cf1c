/-
  CONTRACTS: what is asked of a function's text, shown, gives what its callers may rely on.
-/
import Derived.Test.YtolkoacllaaceaaAbs36
namespace Go.Abs
open Go

section
variable {P : Program}

theorem resL_rel {μ : Mu} {v v' : Value} {vs : List Value} (h : resL v = some vs) (r : VR μ v v') :
    (∃ u, vs = [u] ∧ v = u ∧ ∀ ws, v ≠ .tuple ws) ∨ (vs.length ≠ 1 ∧ ∃ ys, v' = .tuple ys ∧ All2 (VRa μ) vs ys.toList) := by
  unfold resL at h
  split at h
  · rename_i ws
    split at h
    · cases h
    · rename_i hs
      simp only [Option.some.injEq] at h; subst h
      refine .inr ⟨by simpa using hs, ?_⟩
      rcases r.inv_tuple with ⟨ys, rfl, hys⟩ | rfl
      · exact ⟨ys, rfl, hys⟩
      · simp at hs
  · rename_i hne
    simp only [Option.some.injEq] at h; subst h
    exact .inl ⟨v, rfl, rfl, fun ws e => hne ws e⟩

theorem VR.toA {μ : Mu} {v v' : Value} (r : VR μ v v') (h : ∀ ws, v ≠ .tuple ws) : VRa μ v v' := by
  cases r with
  | a r => exact r
  | tup _ => exact absurd rfl (h _)
  | dead => exact absurd rfl (h _)

theorem resV_rel {μ : Mu} {vs : List Value} {v' : Value} (h : (∃ u, vs = [u] ∧ VRa μ u v') ∨ (vs.length ≠ 1 ∧ ∃ ys, v' = .tuple ys ∧ All2 (VRa μ) vs ys.toList)) : VR μ (resV vs) v' := by
  rcases h with ⟨u, rfl, r⟩ | ⟨hl, ys, rfl, hys⟩
  · exact .a r
  · unfold resV
    split
    · simp at hl
    · exact .tup (by simpa using hys)

theorem sas_ok {μ : Mu} {ρ : Rho} {dv : DV} {z1 : Nat → Nat → Option Value} (hD : DvOk μ dv z1) {l : List SA} {vs vs' : List Value} {fs : List Filler} (h : matL (SA.mat dv ρ) l vs = some fs) (hr : All2 (VRa μ) vs vs') (rest : List Filler) : ∃ l0, fillL (SA.fill id) l (fs ++ rest) = some (l0, rest) ∧ All2 (VRa (muOf μ z1 ρ)) l0 vs' :=
  matL_ok (m := SA.mat dv ρ) (f := SA.fill id) (R := VRa μ) (R' := VRa (muOf μ z1 ρ)) (fun _ _ _ _ h r rest => sa_ok hD h r rest) h hr rest

theorem blockFill_own {s : Option SB} {fs r : List Filler} {x : Option Blk} (h : blockFill id s fs = some (x, r)) : (s = none ∧ x = none) ∨ ∃ sb y, s = some sb ∧ x = some y ∧ (keptB (some sb) = true → ownB y = false) ∧ (newB (some sb) = true → ownB y = true) := by
  unfold blockFill at h
  split at h
  · simp only [Option.some.injEq, Prod.mk.injEq] at h
    exact .inl ⟨rfl, h.1.symm⟩
  · rename_i sb
    split at h
    · rename_i y fs1 hy
      simp only [Option.some.injEq, Prod.mk.injEq] at h
      obtain ⟨rfl, rfl⟩ := h
      refine .inr ⟨sb, y, rfl, rfl, ?_⟩
      unfold SB.fill at hy
      cases sb with
      | cells l ro =>
        simp only at hy
        split at hy
        · simp only [Option.some.injEq, Prod.mk.injEq] at hy
          obtain ⟨rfl, rfl⟩ := hy
          exact ⟨fun h => by simp only [keptB] at h; subst h; rfl, fun h => h⟩
        · cases hy
      | row like ro =>
        simp only at hy
        split at hy
        · simp only [Option.some.injEq, Prod.mk.injEq] at hy
          obtain ⟨rfl, rfl⟩ := hy
          exact ⟨fun h => by simp only [keptB] at h; subst h; rfl, fun h => h⟩
        · cases hy
      | map l ck =>
        simp only at hy
        split at hy
        · simp only [Option.some.injEq, Prod.mk.injEq] at hy
          obtain ⟨rfl, rfl⟩ := hy
          exact ⟨fun h => by simp [keptB] at h, fun _ => rfl⟩
        · cases hy
      | tok =>
        simp only [Option.some.injEq, Prod.mk.injEq] at hy
        obtain ⟨rfl, rfl⟩ := hy
        exact ⟨fun h => by simp [keptB] at h, fun _ => rfl⟩
    · cases h
theorem fill_both : ∀ {l : List (Option SB)} {fs r : List Filler} {l0 : List (Option Blk)}, fillL (blockFill id) l fs = some (l0, r) → l0.length = l.length ∧ ∀ (j : Nat) (s : Option SB), l[j]? = some s → ∃ x, l0[j]? = some x ∧
    ((s = none ∧ x = none) ∨ ∃ sb y, s = some sb ∧ x = some y ∧ (keptB (some sb) = true → ownB y = false) ∧ (newB (some sb) = true → ownB y = true))
  | [], fs, r, l0, h => by
    simp only [fillL, Option.some.injEq, Prod.mk.injEq] at h
    obtain ⟨rfl, rfl⟩ := h
    exact ⟨rfl, fun j s h => by simp at h⟩
  | a :: l, fs, r, l0, h => by
    unfold fillL at h
    split at h
    · rename_i b fs1 hb
      split at h
      · rename_i bs fs2 hbs
        simp only [Option.some.injEq, Prod.mk.injEq] at h
        obtain ⟨rfl, rfl⟩ := h
        obtain ⟨h1, h2⟩ := fill_both hbs
        refine ⟨by simp [h1], fun j s hj => ?_⟩
        cases j with
        | zero => simp at hj; subst hj; exact ⟨b, rfl, blockFill_own hb⟩
        | succ j => exact h2 j s (by simpa using hj)
      · cases h
    · cases h
theorem fill_len {l : List (Option SB)} {fs r : List Filler} {l0 : List (Option Blk)} (h : fillL (blockFill id) l fs = some (l0, r)) : l0.length = l.length := (fill_both h).1
theorem fill_own {l : List (Option SB)} {fs r : List Filler} {l0 : List (Option Blk)} (h : fillL (blockFill id) l fs = some (l0, r)) (j : Nat) (x0 : Blk) (hj : l0[j]? = some (some x0)) :
    ∃ sb, l[j]? = some (some sb) ∧ (keptB (some sb) = true → ownB x0 = false) ∧ (newB (some sb) = true → ownB x0 = true) := by
  obtain ⟨h1, h2⟩ := fill_both h
  have hl := (List.getElem?_eq_some_iff.1 hj).1
  obtain ⟨x, h3, h4⟩ := h2 j _ (List.getElem?_eq_getElem (by omega))
  rw [hj] at h3
  simp at h3; subst h3
  rcases h4 with ⟨_, h5⟩ | ⟨sb, y, h5, h6, h7⟩
  · cases h5
  · simp at h6; subst h6
    exact ⟨sb, by rw [List.getElem?_eq_getElem (by omega), h5], h7⟩
theorem fill_some {l : List (Option SB)} {fs r : List Filler} {l0 : List (Option Blk)} (h : fillL (blockFill id) l fs = some (l0, r)) (j : Nat) (sb : SB) (hj : l[j]? = some (some sb)) : ∃ x0, l0[j]? = some (some x0) := by
  obtain ⟨x, h3, h4⟩ := (fill_both h).2 j _ hj
  rcases h4 with ⟨h5, _⟩ | ⟨sb, y, _, h6, _⟩
  · cases h5
  · exact ⟨y, by rw [h3, h6]⟩

/-- The numbers of the caller, behind the call. -/
def muBig (μ : Mu) (n k m : Nat) (ν : Mu) : Mu := ⟨fun b => if b < n then μ b else if b - n + k < m then ν (b - n + k) else none, ν.z⟩

theorem FSpec.ok (hP : ProgOk P) {C : Con} (hC : ConOk P C) {call : Caller} (hcall : CallOk P call) (F : FSpec) {fi : FuncId} {fn : Func} {c : Code} (hf : P.funcs[fi]? = some fn) (hb : fn.body = some c) {n : Nat} {LS : F.D → Loops}
    (_hlen : F.sh.blocks.length ≤ F.oblocks.length) (hall : F.sh.blocks.all Option.isSome = true)
    (hbody : ∀ d, F.pre d → ∀ s0, F.sh.fill (F.fills d) = some s0 → runV std P C call n (LS d) F.sh.blocks.length c ⟨s0.tmps ++ List.replicate (fn.ntmps - s0.tmps.length) undef, s0.h⟩ (resK P fn (F.done d))) :
    ∀ args h K, F.con args h K → CallSem P fi args h K := by
  intro args h K e μ base w args' hl hrel hfree
  unfold FSpec.con at e
  split at e
  case h_2 => exact e.elim
  rename_i fs hm
  split at e
  case isFalse => exact e.elim
  rename_i hc
  simp only [Bool.and_eq_true, List.all_eq_true, decide_eq_true_eq] at hc
  obtain ⟨hnd, hlt⟩ := hc
  have hnd := nodupB_spec hnd
  obtain ⟨d, rfl, hpre, hK⟩ := e
  generalize hρ : F.rho args h = ρ at *
  -- the small state
  have hρl : ρ.length = F.sh.blocks.length := by
    unfold Shape.matD at hm
    split at hm
    · rename_i x y hx hy
      have : ∀ {l : List (Option SB)} {bs : List Nat} {fs : List Filler}, blocksMat (deepV h (fun _ => false) 6) true ρ h l bs = some fs → bs.length = l.length := by
        intro l
        induction l with
        | nil => intro bs fs h; cases bs with
          | nil => rfl
          | cons _ _ => simp [blocksMat] at h
        | cons a l ih => intro bs fs h; cases bs with
          | nil => simp [blocksMat] at h
          | cons b bs =>
            unfold blocksMat at h
            split at h
            · rename_i h2; simp [ih h2]
            · cases h
      exact this hy
    · cases hm
  have hfill : ∃ s0, F.sh.fill (F.fills d) = some s0 := by
    unfold Shape.matD at hm
    split at hm
    · rename_i x y hx hy
      simp only [Option.some.injEq] at hm
      obtain ⟨l0, h1, _⟩ := slots_ok (dvOk_none hrel) hx hl y
      obtain ⟨bs, h3, _, _⟩ := blocks_ok (dvOk_none hrel) hrel hfree hy []
      rw [List.append_nil] at h3
      unfold Shape.fill
      rw [← hm, h1]
      simp only [h3]
      exact ⟨_, rfl⟩
    · cases hm
  obtain ⟨s0, hs0⟩ := hfill
  have hTR : TR μ (⟨args, h⟩ : St).tmps args' := hl
  obtain ⟨hn0, ht0, hr0, hback⟩ := shape0_ok hm hs0 hnd hTR hrel hfree
  have hfree0 : ∀ b, s0.h.next ≤ b → muOf μ μ.z ρ b = none := fun b hb => by show (ρ[b]?).bind μ.f = none; rw [List.getElem?_eq_none (by omega)]; rfl
  have htr : TR (muOf μ μ.z ρ) (s0.tmps ++ List.replicate (fn.ntmps - s0.tmps.length) undef) (args' ++ Array.replicate (fn.ntmps - args'.size) undef) := by
    unfold TR
    rw [Array.toList_append, Array.toList_replicate]
    have : s0.tmps.length = args'.size := by rw [ht0.1, Array.length_toList]
    rw [this]
    exact ht0.append (All2.replicate _ (.undef _))
  have hn := hP.name hf
  refine .inr ⟨by simp [callFunc, hf, hn, hb], ?_⟩
  refine calls_of_wp hf hb ?_
  refine (runV_ok hP hC hcall n).1 (LS d) F.sh.blocks.length c _ _ (hP.code hf hb) (hbody d hpre s0 hs0) F.sh.blocks.length (Nat.le_refl _) (by show _ ≤ s0.h.next; omega) ⟨htr, rfl, hr0, hfree0⟩ fun ex s' a' w' μ' hdone hk hp => ?_
  -- behind the text
  have key : ∀ {v : Value}, resultsA P fn s' = some v → F.done d v s'.h → ∃ v', (results fn a'.tmps).run P w' = .ok v' w' ∧ ∃ v h' μ', K v h' ∧ COut μ base h w v h' v' w' μ' := by
    intro v hres hd
    obtain ⟨v', h2, h3⟩ := resultsA_run hres hp.cfg.tmps hp.cfg.rel
    refine ⟨v', h2, ?_⟩
    unfold FSpec.done at hd
    split at hd
    case h_2 => exact hd.elim
    rename_i vs hvs
    split at hd
    case h_2 => exact hd.elim
    rename_i x y hx hy
    split at hd
    case isFalse => exact hd.elim
    rename_i hcheck
    simp only [Bool.and_eq_true, List.all_eq_true] at hcheck
    obtain ⟨⟨hhead, hnd'⟩, hnew⟩ := hcheck
    obtain ⟨r, hof, hpost⟩ := hd
    generalize hσ : F.orho vs s'.h = σ at *
    have hD := dvOk_of hp.cfg.rel σ
    obtain ⟨hkσ, hσi⟩ := headOk_spec hhead
    have hndσ := nodupB_spec hnd'
    -- the shape of what is left, filled with its own numbers
    have hvr : ∃ l0, fillL (SA.fill id) F.res (x ++ y) = some (l0, y) ∧ ((∃ u, l0 = [u] ∧ VRa (muOf μ' (zS μ' s'.h w' σ) σ) u v') ∨ (l0.length ≠ 1 ∧ ∃ ys, v' = .tuple ys ∧ All2 (VRa (muOf μ' (zS μ' s'.h w' σ) σ)) l0 ys.toList)) := by
      rcases resL_rel hvs h3 with ⟨u, rfl, rfl, hnt⟩ | ⟨hl1, ys, rfl, hys⟩
      · obtain ⟨l0, h4, h5⟩ := sas_ok hD hx (All2.cons (h3.toA hnt) All2.nil) y
        refine ⟨l0, h4, .inl ?_⟩
        have hl0 : l0.length = 1 := by rw [h5.1]; rfl
        obtain ⟨u0, rfl⟩ := List.length_eq_one_iff.1 hl0
        obtain ⟨b, m', e1, e2, _⟩ := h5.inv_cons
        simp at e1
        exact ⟨u0, rfl, by rw [e1.1]; exact e2⟩
      · obtain ⟨l0, h4, h5⟩ := sas_ok hD hx hys y
        exact ⟨l0, h4, .inr ⟨by rw [h5.1, ← hys.1]; exact hl1, ys, rfl, h5⟩⟩
    obtain ⟨l0, hfr, hrel0⟩ := hvr
    obtain ⟨bs0, hbs0, hbl, hbs⟩ := blocks_ok hD hp.cfg.rel hp.cfg.free hy []
    rw [List.append_nil] at hbs0
    have hσl : σ.length = F.oblocks.length := by
      have : ∀ {l : List (Option SB)} {bs : List Nat} {fs : List Filler}, blocksMat (deepV s'.h (okF σ) 6) false σ s'.h l bs = some fs → bs.length = l.length := by
        intro l
        induction l with
        | nil => intro bs fs h; cases bs with
          | nil => rfl
          | cons _ _ => simp [blocksMat] at h
        | cons a l ih => intro bs fs h; cases bs with
          | nil => simp [blocksMat] at h
          | cons b bs =>
            unfold blocksMat at h
            split at h
            · rename_i h2; simp [ih h2]
            · cases h
      exact this hy
    -- the caller's numbers
    have hμf : ∀ j p, muOf μ' (zS μ' s'.h w' σ) σ j = some p → muBig μ h.next ρ.length σ.length (muOf μ' (zS μ' s'.h w' σ) σ) (placeOf ρ h.next j) = some p := by
      intro j p hj
      unfold placeOf muBig
      have hj : (σ[j]?).bind μ'.f = some p := hj
      have hjl : j < σ.length := by
        rcases Nat.lt_or_ge j σ.length with h1 | h1
        · exact h1
        · rw [List.getElem?_eq_none h1] at hj; cases hj
      simp only
      split
      · rename_i hjk
        have hmem : ρ.getD j 0 ∈ ρ := by
          rw [List.getD_eq_getElem?_getD, List.getElem?_eq_getElem hjk]; exact List.getElem_mem hjk
        rw [if_pos (hlt _ hmem)]
        have h1 : σ[j]? = some j := hσi j (by omega)
        rw [h1] at hj
        have h2 : μ' j = some p := hj
        rw [hp.prot j (by omega)] at h2
        have h2 : (ρ[j]?).bind μ.f = some p := h2
        rw [List.getElem?_eq_getElem hjk] at h2
        rw [List.getD_eq_getElem?_getD, List.getElem?_eq_getElem hjk]
        exact h2
      · rename_i hjk
        rw [if_neg (by omega), show h.next + (j - ρ.length) - h.next + ρ.length = j from by omega, if_pos hjl]
        exact hj
    obtain ⟨l1, hl1, hr1⟩ := renL (F := SA.fill id) (G := SA.fill (placeOf ρ h.next)) (R := fun v0 v1 => ∀ v', VRa (muOf μ' (zS μ' s'.h w' σ) σ) v0 v' → VRa (muBig μ h.next ρ.length σ.length (muOf μ' (zS μ' s'.h w' σ) σ)) v1 v') (fun s fs r v0 h => renA ⟨hμf, fun _ _ _ h => h⟩ h) hfr
    obtain ⟨bs1, hbs1, hrb⟩ := renBs ⟨hμf, fun _ _ _ h => h⟩ hbs0
    have hleave := hK r hpost
    unfold FSpec.leave at hleave
    rw [hof, hl1] at hleave
    simp only [hbs1] at hleave
    refine ⟨_, _, muBig μ h.next ρ.length σ.length (muOf μ' (zS μ' s'.h w' σ) σ), hleave, ?_⟩
    have hbl1 : bs1.length = σ.length := by rw [← hrb.1, hbl]
    obtain ⟨i1, i2, i3, i4⟩ := putB_spec (ρ := ρ) (ks := F.sh.blocks.map keptB) (xs := bs1) (h := h) (by rw [List.length_map, hρl]) (by rw [hbl1]; omega) hnd hlt
    generalize hh1 : putB h ρ (F.sh.blocks.map keptB) bs1 = h1 at *
    -- blocks of the caller that the function saw as its own are the caller's own
    have hown : ∀ b p x, μ b = some p → h.get b = some x → (∀ b0 p0 x0, muOf μ μ.z ρ b0 = some p0 → s0.h.get b0 = some x0 → ownB x0 = true → p0.c ≠ p.c) → w'.heap[p.c]? = w.heap[p.c]? := by
      intro b p x hb hx hno
      exact hp.fr.block p.c (hrel.blk b p x hb hx).lt hno
    have hsees : ∀ j p0 x0, muOf μ μ.z ρ j = some p0 → s0.h.get j = some x0 → ∃ b x, ρ[j]? = some b ∧ μ b = some p0 ∧ h.get b = some x ∧ (ownB x0 = true → ownB x = true) := by
      intro j p0 x0 hj hx0
      obtain ⟨b, x, h4, h5, h6⟩ := hback j x0 p0 hx0 hj
      have hj : (ρ[j]?).bind μ.f = some p0 := hj
      rw [h4] at hj
      exact ⟨b, x, h4, hj, h5, h6.1⟩
    -- a block of the new heap: a block that stayed, or one that the function left or made
    have cases1 : ∀ b x, h1.get b = some x → (b < h.next ∧ h.get b = some x ∧ (b ∉ ρ ∨ ∃ j : Nat, ρ[j]? = some b ∧ (F.sh.blocks.map keptB)[j]? = some true)) ∨ (∃ (j : Nat) (y : Blk), bs1[j]? = some (some x) ∧ bs0[j]? = some (some y) ∧ placeOf ρ h.next j = b ∧ ownB x = ownB y ∧
        (∀ p, BR (muOf μ' (zS μ' s'.h w' σ) σ) base w' p y → BR (muBig μ h.next ρ.length σ.length (muOf μ' (zS μ' s'.h w' σ) σ)) base w' p x)) := by
      intro b x hx
      have left : ∀ (j : Nat), bs1[j]? = some (some x) → ∃ y, bs0[j]? = some (some y) ∧ ownB x = ownB y ∧ ∀ p, BR (muOf μ' (zS μ' s'.h w' σ) σ) base w' p y → BR (muBig μ h.next ρ.length σ.length (muOf μ' (zS μ' s'.h w' σ) σ)) base w' p x := by
        intro j hj
        rcases hrb.get j with ⟨_, e⟩ | ⟨x0, x1, e1, e2, r⟩
        · rw [hj] at e; cases e
        · rw [hj] at e2; simp at e2; subst e2
          rcases r with ⟨_, h4⟩ | ⟨y0, y1, rfl, h5, h6, h7⟩
          · cases h4
          · simp at h5; subst h5
            exact ⟨y0, e1, h7, fun p hb => h6 hb⟩
      by_cases hbl : b < h.next
      · by_cases hm : b ∈ ρ
        · obtain ⟨j, hj⟩ := List.mem_iff_getElem?.1 hm
          rw [i3 j b hj] at hx
          have hjl := (List.getElem?_eq_some_iff.1 hj).1
          split at hx
          · rename_i y hy
            simp only [Option.some.injEq] at hx; subst hx
            have hj1 : bs1[j]? = some (some y) := by
              cases e : bs1[j]? with
              | none => rw [e] at hy; cases hy
              | some o => rw [e] at hy; simp at hy; rw [hy]
            obtain ⟨y0, h4, h5, h6⟩ := left j hj1
            refine .inr ⟨j, y0, hj1, h4, ?_, h5, h6⟩
            unfold placeOf; rw [if_pos hjl, List.getD_eq_getElem?_getD, hj]; rfl
          · split at hx
            · rename_i hk
              exact .inl ⟨hbl, hx, .inr ⟨j, hj, hk⟩⟩
            · cases hx
        · rw [i2 b hbl hm] at hx
          exact .inl ⟨hbl, hx, .inl hm⟩
      · have h4 := i4 (b - h.next)
        rw [show h.next + (b - h.next) = b from by omega, hx] at h4
        have hj1 : bs1[ρ.length + (b - h.next)]? = some (some x) := by
          cases e : bs1[ρ.length + (b - h.next)]? with
          | none => rw [e] at h4; cases h4
          | some o => rw [e] at h4; simp at h4; rw [← h4]
        obtain ⟨y0, h5, h6, h7⟩ := left _ hj1
        refine .inr ⟨_, y0, hj1, h5, ?_, h6, h7⟩
        unfold placeOf; rw [if_neg (by omega)]; omega
    -- what stands for a place
    have muOld : ∀ b, b < h.next → muBig μ h.next ρ.length σ.length (muOf μ' (zS μ' s'.h w' σ) σ) b = μ b := fun b hb => by show (if b < h.next then μ.f b else _) = _; rw [if_pos hb]
    have muAt : ∀ j, j < σ.length → muBig μ h.next ρ.length σ.length (muOf μ' (zS μ' s'.h w' σ) σ) (placeOf ρ h.next j) = muOf μ' (zS μ' s'.h w' σ) σ j := by
      intro j hj
      cases e : muOf μ' (zS μ' s'.h w' σ) σ j with
      | some p => exact hμf j p e
      | none =>
        unfold placeOf muBig
        have e : (σ[j]?).bind μ'.f = none := e
        simp only
        split
        · rename_i hjk
          have hmem : ρ.getD j 0 ∈ ρ := by
            rw [List.getD_eq_getElem?_getD, List.getElem?_eq_getElem hjk]; exact List.getElem_mem hjk
          rw [if_pos (hlt _ hmem)]
          have h1 : σ[j]? = some j := hσi j (by omega)
          rw [h1] at e
          have h2 : μ' j = none := e
          rw [hp.prot j (by omega)] at h2
          have h2 : (ρ[j]?).bind μ.f = none := h2
          rw [List.getElem?_eq_getElem hjk] at h2
          rw [List.getD_eq_getElem?_getD, List.getElem?_eq_getElem hjk]
          exact h2
        · rw [if_neg (by omega), show h.next + (j - ρ.length) - h.next + ρ.length = j from by omega, if_pos hj]
          exact e
    -- a kept block was seen as one that is only read
    have hf0 := hs0
    unfold Shape.fill at hf0
    split at hf0
    case h_2 => cases hf0
    rename_i tm0 fs1 htm
    split at hf0
    case h_2 => cases hf0
    rename_i bl0 fs2 hbl0
    simp only [Option.some.injEq] at hf0
    have s0get : ∀ j : Nat, s0.h.get j = (bl0[j]?).join := by intro j; rw [← hf0]; exact hpOf_get bl0 j
    have keptRo : ∀ (j : Nat) (x0 : Blk), (F.sh.blocks.map keptB)[j]? = some true → s0.h.get j = some x0 → ownB x0 = false := by
      intro j x0 hk hx0
      rw [s0get] at hx0
      have hj : bl0[j]? = some (some x0) := by
        cases e : bl0[j]? with
        | none => rw [e] at hx0; cases hx0
        | some o => rw [e] at hx0; simp at hx0; rw [hx0]
      obtain ⟨sb, h4, h5, _⟩ := fill_own hbl0 j x0 hj
      rw [List.getElem?_map, h4] at hk
      exact h5 (by simpa using hk)
    have there : ∀ j : Nat, j < ρ.length → ∃ x0, s0.h.get j = some x0 := by
      intro j hj
      rw [s0get]
      have hlen0 := fill_len hbl0
      have hj2 : j < F.sh.blocks.length := by omega
      have h4 := List.all_eq_true.1 hall _ (List.getElem_mem hj2)
      obtain ⟨sb, h5⟩ := Option.isSome_iff_exists.1 h4
      obtain ⟨x0, h6⟩ := fill_some hbl0 j sb (by rw [List.getElem?_eq_getElem hj2, h5])
      exact ⟨x0, by rw [h6]; rfl⟩
    have leftAt : ∀ (j : Nat) (y : Blk) (p : Pl), bs0[j]? = some (some y) → muOf μ' (zS μ' s'.h w' σ) σ j = some p → ∃ b2 x2, σ[j]? = some b2 ∧ μ' b2 = some p ∧ s'.h.get b2 = some x2 ∧ ownB y = ownB x2 ∧ BR (muOf μ' (zS μ' s'.h w' σ) σ) base w' p y := by
      intro j y p hj hp1
      obtain ⟨b2, h4, h5⟩ := hbs j y hj
      have hp1 : (σ[j]?).bind μ'.f = some p := hp1
      rw [h4] at hp1
      obtain ⟨x2, h6, h7, h8⟩ := h5 p hp1
      exact ⟨b2, x2, h4, hp1, h6, h7.2 rfl, h8⟩
    have jlt : ∀ (j : Nat) (x : Blk), bs1[j]? = some (some x) → j < σ.length := fun j x hj => by rw [← hbl1]; exact (List.getElem?_eq_some_iff.1 hj).1
    -- blocks that stayed are as they were
    have stays : ∀ b p x, b < h.next → μ b = some p → h.get b = some x → (b ∉ ρ ∨ ∃ j : Nat, ρ[j]? = some b ∧ (F.sh.blocks.map keptB)[j]? = some true) →
        ∀ (b0 : Nat) (p0 : Pl) (x0 : Blk), muOf μ μ.z ρ b0 = some p0 → s0.h.get b0 = some x0 → ownB x0 = true → p0.c ≠ p.c := by
      intro b p x hb hμ hx hst b0 p0 x0 h4 h5 h6
      obtain ⟨b'', x'', h7, h8, h9, h10⟩ := hsees b0 p0 x0 h4 h5
      refine hrel.inj b'' b p0 p x'' x h8 hμ h9 hx (fun e => ?_) (h10 h6)
      subst e
      rcases hst with hst | ⟨j, hj, hk⟩
      · exact hst (List.mem_of_getElem? h7)
      · have := nodup_inj hnd hj h7
        subst this
        have := keptRo j x0 hk h5
        rw [h6] at this; cases this
    have hle : Mu.le μ (muBig μ h.next ρ.length σ.length (muOf μ' (zS μ' s'.h w' σ) σ)) := by
      refine ⟨fun b p hb => ?_, fun c i a hc => hD.le c i a (hp.zle c i a hc)⟩
      have hbl : b < h.next := by
        rcases Nat.lt_or_ge b h.next with h4 | h4
        · exact h4
        · rw [hfree b h4] at hb; cases hb
      rw [muOld b hbl]; exact hb
    refine ⟨resV_rel ?_, ⟨hp.cfg.rel.size, fun b p x hb hx => ?_, fun b b' p p' x x' hb hb' hx hx' hne ho => ?_, fun c i a hc => ⟨((freeze_rel hp.cfg.rel fun b => okF σ b = true).frz c i a hc).1, fun b p x hb hx ho hcc => ?_⟩⟩, fun b hb => ?_, ⟨hp.fr.os, hp.fr.tape, hp.fr.output, hp.fr.size, fun c hc hno => ?_⟩, fun b p x hb hx => ?_, fun i hi => muOld i hi, by rw [i1]; omega, hle.z, fun c i a hc => ?_⟩
    · rcases hrel0 with ⟨u, rfl, hu⟩ | ⟨hl2, ys, rfl, hys⟩
      · obtain ⟨u1, m', rfl, hu1, hm'⟩ := hr1.inv_cons
        have := hm'.inv_nil; subst this
        exact .inl ⟨u1, rfl, hu1 _ hu⟩
      · exact .inr ⟨by rw [← hr1.1]; exact hl2, ys, rfl, all2_ren hr1 hys⟩
    · rcases cases1 b x hx with ⟨h4, h5, h6⟩ | ⟨j, y, h4, h5, h6, h7, h8⟩
      · rw [muOld b h4] at hb
        exact (hrel.blk b p x hb h5).keep hle (hown b p x hb h5 (stays b p x h4 hb h5 h6))
      · have hj := jlt j x h4
        rw [← h6, muAt j hj] at hb
        obtain ⟨b2, x2, _, _, _, _, h9⟩ := leftAt j y p h5 hb
        exact h8 p h9
    · rcases cases1 b x hx with ⟨h4, h5, h6⟩ | ⟨j, y, h4, h5, h6, h7, h8⟩
      · rw [muOld b h4] at hb
        rcases cases1 b' x' hx' with ⟨k4, k5, k6⟩ | ⟨j', y', k4, k5, k6, k7, k8⟩
        · rw [muOld b' k4] at hb'
          exact hrel.inj b b' p p' x x' hb hb' h5 k5 hne ho
        · have hj' := jlt j' x' k4
          rw [← k6, muAt j' hj'] at hb'
          obtain ⟨b2, x2, m1, m2, m3, m4, _⟩ := leftAt j' y' p' k5 hb'
          intro e
          rcases hp.own b2 p' x2 m2 m3 with m5 | ⟨b0, p0, x0, m5, m6, m7, m8⟩
          · have := (hrel.blk b p x hb h5).lt; omega
          · obtain ⟨b'', x'', m9, m10, m11, m12⟩ := hsees b0 p0 x0 m5 m6
            by_cases hbb : b = b''
            · subst hbb
              rcases h6 with h6 | ⟨j, hj, hk⟩
              · exact h6 (List.mem_of_getElem? m9)
              · have := nodup_inj hnd hj m9
                subst this
                have hro := keptRo j x0 hk m6
                by_cases hjk : j' < ρ.length
                · -- a block that the function looked at
                  obtain ⟨z0, hz0⟩ := there j' hjk
                  have hσj := hσi j' (by omega)
                  rw [hσj] at m1
                  simp at m1; subst m1
                  rw [hp.prot j' (by omega)] at m2
                  obtain ⟨c, z, n1, n2, n3⟩ := hback j' z0 _ hz0 m2
                  have m2 : (ρ[j']?).bind μ.f = some p' := m2
                  rw [n1] at m2
                  have hcb : c = b' := by
                    rw [← k6]; unfold placeOf; rw [if_pos hjk, List.getD_eq_getElem?_getD, n1]; rfl
                  subst hcb
                  exact hrel.inj b c p p' x z hb m2 h5 n2 hne ho e
                · have hnb : newB (F.oblocks[j']'(by omega)) = true := hnew _ (by
                    rw [List.mem_iff_getElem?]
                    exact ⟨j' - F.sh.blocks.length, by rw [List.getElem?_drop, show F.sh.blocks.length + (j' - F.sh.blocks.length) = j' from by omega, List.getElem?_eq_getElem]⟩)
                  obtain ⟨sb, q1, _, q2⟩ := fill_own hbs0 j' y' k5
                  have q3 : ownB y' = true := q2 (by
                    rw [List.getElem?_eq_getElem (by omega)] at q1
                    simp at q1; rw [← q1]; exact hnb)
                  have := m7 (by rw [← m4]; exact q3)
                  rw [hro] at this; cases this
            · exact hrel.inj b b'' p p0 x x'' hb m10 h5 m11 hbb ho (by rw [e, m8])
      · have hj := jlt j x h4
        rw [← h6, muAt j hj] at hb
        obtain ⟨b2, x2, m1, m2, m3, m4, _⟩ := leftAt j y p h5 hb
        have ho2 : ownB x2 = true := by rw [← m4, ← h7]; exact ho
        rcases cases1 b' x' hx' with ⟨k4, k5, k6⟩ | ⟨j', y', k4, k5, k6, k7, k8⟩
        · rw [muOld b' k4] at hb'
          rcases hp.own b2 p x2 m2 m3 with m5 | ⟨b0, p0, x0, m5, m6, m7, m8⟩
          · have := (hrel.blk b' p' x' hb' k5).lt; omega
          · rw [← m8]
            exact stays b' p' x' k4 hb' k5 k6 b0 p0 x0 m5 m6 (m7 ho2)
        · have hj' := jlt j' x' k4
          rw [← k6, muAt j' hj'] at hb'
          obtain ⟨b2', x2', q1, q2, q3, q4, _⟩ := leftAt j' y' p' k5 hb'
          refine hp.cfg.rel.inj b2 b2' p p' x2 x2' m2 q2 m3 q3 (fun e => ?_) ho2
          subst e
          have := nodup_inj hndσ m1 q1
          subst this
          exact hne (h6.symm.trans k6)
    · -- what is frozen
      have hfz := (freeze_rel hp.cfg.rel fun b => okF σ b = true).frz c i a hc
      rcases cases1 b x hx with ⟨h4, h5, h6⟩ | ⟨j, y, h4, h5, h6, h7, h8⟩
      · rw [muOld b h4] at hb
        -- a block that stayed
        have old : ∀ {b0 : Nat} {p0 : Pl} {x0 : Blk}, muOf μ μ.z ρ b0 = some p0 → s0.h.get b0 = some x0 → ownB x0 = true → p0.c = c → False := fun k1 k2 k3 k4 =>
          stays b p x h4 hb h5 h6 _ _ _ k1 k2 k3 (k4.trans hcc.symm)
        rcases freeze_sim _ c i a hc with k1 | k1 | ⟨b0, p0, x0, k1, k2, k3, k4⟩
        · rcases hp.fz c i a k1 with k1 | k1 | ⟨b0, p0, x0, k1, k2, k3, k4⟩
          · exact (hrel.frz c i a k1).2 b p x hb h5 ho hcc
          · have := (hrel.blk b p x hb h5).lt; omega
          · exact (old k1 k2 k3 k4).elim
        · have := (hrel.blk b p x hb h5).lt; have := hp.fr.size; omega
        · rcases hp.own b0 p0 x0 k1 k2 with m5 | ⟨b1, p1, x1, m5, m6, m7, m8⟩
          · have := (hrel.blk b p x hb h5).lt; omega
          · exact (old m5 m6 (m7 k3) (m8.trans k4)).elim
      · have hj := jlt j x h4
        rw [← h6, muAt j hj] at hb
        obtain ⟨b2, x2, m1, m2, m3, m4, _⟩ := leftAt j y p h5 hb
        refine hfz.2 b2 p x2 m2 ?_ (by rw [← m4, ← h7]; exact ho) hcc
        unfold gF
        rw [if_neg (fun hs => okF_own (List.mem_of_getElem? m1) hs)]
        exact m3
    · show (if b < h.next then μ.f b else if b - h.next + ρ.length < σ.length then _ else none) = none
      rw [i1] at hb
      rw [if_neg (by omega), if_neg (by omega)]
    · refine hp.fr.block c hc fun b0 p0 x0 h4 h5 h6 => ?_
      obtain ⟨b'', x'', _, h8, h9, h10⟩ := hsees b0 p0 x0 h4 h5
      exact hno b'' p0 x'' h8 h9 (h10 h6)
    · rcases cases1 b x hx with ⟨h4, h5, h6⟩ | ⟨j, y, h4, h5, h6, h7, h8⟩
      · rw [muOld b h4] at hb
        exact .inr ⟨b, p, x, hb, h5, id, rfl⟩
      · have hj := jlt j x h4
        rw [← h6, muAt j hj] at hb
        obtain ⟨b2, x2, m1, m2, m3, m4, _⟩ := leftAt j y p h5 hb
        rcases hp.own b2 p x2 m2 m3 with m5 | ⟨b0, p0, x0, m5, m6, m7, m8⟩
        · exact .inl m5
        · obtain ⟨b'', x'', _, h9, h10, h11⟩ := hsees b0 p0 x0 m5 m6
          exact .inr ⟨b'', p0, x'', h9, h10, fun h => h11 (m7 (by rw [← m4, ← h7]; exact h)), m8⟩
    · -- what is frozen comes of a block of the caller's, or is new
      have one : ∀ {b0 : Nat} {p0 : Pl} {x0 : Blk}, muOf μ μ.z ρ b0 = some p0 → s0.h.get b0 = some x0 → ownB x0 = true → p0.c = c → ∃ b0 p0 x0, μ b0 = some p0 ∧ h.get b0 = some x0 ∧ ownB x0 = true ∧ p0.c = c := fun k1 k2 k3 k4 => by
        obtain ⟨b'', x'', _, h9, h10, h11⟩ := hsees _ _ _ k1 k2
        exact ⟨b'', _, x'', h9, h10, h11 k3, k4⟩
      rcases freeze_sim _ c i a hc with k1 | k1 | ⟨b0, p0, x0, k1, k2, k3, k4⟩
      · rcases hp.fz c i a k1 with k1 | k1 | ⟨b0, p0, x0, k1, k2, k3, k4⟩
        · exact .inl k1
        · exact .inr (.inl k1)
        · exact .inr (.inr (one k1 k2 k3 k4))
      · exact .inr (.inl (Nat.le_trans hp.fr.size k1))
      · rcases hp.own b0 p0 x0 k1 k2 with m5 | ⟨b1, p1, x1, m5, m6, m7, m8⟩
        · exact .inr (.inl (by omega))
        · exact .inr (.inr (one m5 m6 (m7 k3) (m8.trans k4)))
  unfold resK at hdone
  split at hdone
  · split at hdone
    · rename_i v hres
      obtain ⟨v', h2, h3⟩ := key hres hdone
      exact ⟨hp.cfg.defers, v', h2, v', rfl, h3⟩
    · exact hdone.elim
  · split at hdone
    · rename_i v hres
      obtain ⟨v', h2, h3⟩ := key hres hdone
      exact ⟨hp.cfg.defers, v', h2, v', rfl, h3⟩
    · exact hdone.elim
  · exact hdone.elim
end
end Go.Abs
