/-
  A FUNCTION's TEXT AS A CONTRACT, with contracts, loops, tellings of its own; a heap told in other words behind it.
-/
import Derived.Test.YtecdmdglkkeidaaAbs48
namespace Go.Abs
open Go

theorem text_sem {P : Program} (hP : ProgOk P) {C : Con} (hC : ConOk P C) {call : Caller} (hcall : CallOk P call) {f : FuncId} {fn : Func} {c : Code} (hf : P.funcs[f]? = some fn) (hb : fn.body = some c) {n : Nat} {LS : Loops} {args : List Value} {h : Hp} {K : Value → Hp → Prop}
    (e0 : lawV std P C call n LS fn c args h K) : CallSem P f args h K := by
  have e : runV std P C call n LS h.next c ⟨args ++ List.replicate (fn.ntmps - args.length) undef, h⟩ (resK P fn K) := by rw [lawV_eq]; exact e0
  intro μ base w args' hl hrel hfree
  have htr : TR μ (args ++ List.replicate (fn.ntmps - args.length) undef) (args' ++ Array.replicate (fn.ntmps - args'.size) undef) := by
    unfold TR
    rw [Array.toList_append, Array.toList_replicate]
    have : args.length = args'.size := by rw [hl.1, Array.length_toList]
    rw [this]
    exact hl.append (All2.replicate _ (.undef μ))
  refine .inr ⟨?_, ?_⟩
  · have hn := hP.name hf
    simp [callFunc, hf, hn, hb]
  · refine calls_of_wp hf hb ?_
    refine (runV_ok hP hC hcall n).1 LS h.next c _ _ (hP.code hf hb) e h.next (Nat.le_refl _) (Nat.le_refl _) ⟨htr, rfl, hrel, hfree⟩ fun ex s' a' w' μ' hK hk hp => ?_
    have key : ∀ {v : Value}, resultsA P fn s' = some v → K v s'.h → ∃ v', (results fn a'.tmps).run P w' = .ok v' w' ∧ ∃ v h' μ', K v h' ∧ COut μ base h w v h' v' w' μ' := by
      intro v hres hK
      obtain ⟨v', h2, h3⟩ := resultsA_run hres hp.cfg.tmps hp.cfg.rel
      exact ⟨v', h2, v, s'.h, μ', hK, h3, hp.cfg.rel, hp.cfg.free, hp.fr, hp.own, hp.prot, hk⟩
    unfold resK at hK
    split at hK
    · split at hK
      · rename_i v hres
        obtain ⟨v', h2, h3⟩ := key hres hK
        exact ⟨hp.cfg.defers, v', h2, v', rfl, h3⟩
      · exact hK.elim
    · split at hK
      · rename_i v hres
        obtain ⟨v', h2, h3⟩ := key hres hK
        exact ⟨hp.cfg.defers, v', h2, v', rfl, h3⟩
      · exact hK.elim
    · exact hK.elim

theorem CallSem.recast {P : Program} {f : FuncId} {args : List Value} {h : Hp} {K1 K2 : Value → Hp → Prop} (e : CallSem P f args h K1)
    (h12 : ∀ {v : Value} {h1 : Hp}, K1 v h1 → ∃ v2 h2, K2 v2 h2 ∧ (∀ {μ : Mu} {v' : Value}, VR μ v v' → VR μ v2 v') ∧ h2.next = h1.next ∧ ∀ b, (h2.get b).map Blk.view = (h1.get b).map Blk.view) : CallSem P f args h K2 := by
  intro μ base w args' hl hrel hfree
  have key : ∀ {v' : Value} {w' : World}, (∃ v h' μ', K1 v h' ∧ COut μ base h w v h' v' w' μ') → ∃ v h' μ', K2 v h' ∧ COut μ base h w v h' v' w' μ' := by
    rintro v' w' ⟨v, h1, μ', hK, co⟩
    obtain ⟨v2, h2, hK2, hv, hn, hg⟩ := h12 hK
    have hview : h2.view.get = h1.view.get := funext fun b => by rw [Hp.get_view, Hp.get_view, hg]
    refine ⟨v2, h2, μ', hK2, hv co.val, ?_, fun b hb => co.free b (by rw [← hn]; exact hb), co.fr, fun b p x hp hx => ?_, co.prot, by rw [hn]; exact co.next⟩
    · refine (Rel.view h2.get_view).1 ?_
      rw [hview]
      exact co.rel.ofView
    · have h3 := hg b
      rw [hx] at h3
      obtain ⟨y, hy, hxy⟩ := map_view h3.symm
      have hown : ownB x = ownB y := by rw [← owns_view x, hxy, owns_view]
      rcases co.own b p y hp hy with h4 | ⟨b0, p0, x0, g1, g2, g3, g4⟩
      · exact .inl h4
      · exact .inr ⟨b0, p0, x0, g1, g2, fun hx => g3 (by rw [← hown]; exact hx), g4⟩
  rcases e hl hrel hfree with ⟨v', w', h1, h2⟩ | ⟨h1, h2⟩
  · exact .inl ⟨v', w', h1, key h2⟩
  · exact .inr ⟨h1, h2.mono fun en w' ⟨v, he, hx⟩ => ⟨v, he, key hx⟩⟩

/-- A reader's bytes, told one by one. -/
def recastK (S : Sy) (es : List Int) (K : Value → Hp → Prop) (v : Value) (h : Hp) : Prop :=
  match v with
  | .pointer (some ⟨pb, 0, none⟩) => match h.get pb with
    | some (.cells [a, c] false) => match den a with
      | .slice (some ⟨rb, o, none⟩) n cap => match h.get rb with
        | some (.row (.ints .u8 xs) false) => (S.neq n es.length ∧ xs = es) ∧ K (.pointer (some ⟨pb, 0, none⟩)) ((h.put rb (some (.cells (es.map fun x => mk (.int .u8 x)) false))).put pb (some (.cells [.slice (some ⟨rb, o, none⟩) es.length cap, c] false)))
        | _ => False
      | _ => False
    | _ => False
  | _ => False
theorem recastK_ok {es : List Int} {K : Value → Hp → Prop} {v : Value} {h1 : Hp} (e : recastK std es K v h1) : ∃ v2 h2, K v2 h2 ∧ (∀ {μ : Mu} {v' : Value}, VR μ v v' → VR μ v2 v') ∧ h2.next = h1.next ∧ ∀ b, (h2.get b).map Blk.view = (h1.get b).map Blk.view := by
  unfold recastK at e
  split at e
  case h_2 => exact e.elim
  rename_i pb
  split at e
  case h_2 => exact e.elim
  rename_i a c hpb
  split at e
  case h_2 => exact e.elim
  rename_i rb o n cap hda
  split at e
  case h_2 => exact e.elim
  rename_i xs hrb
  obtain ⟨⟨hn, hxs⟩, hK⟩ := e
  have hn : n = es.length := hn
  subst hxs
  subst hn
  refine ⟨_, _, hK, fun h => h, rfl, fun b => ?_⟩
  have l1 := Hp.lt_of_get hpb
  have l2 := Hp.lt_of_get hrb
  have hne : rb ≠ pb := fun h => by subst h; rw [hpb] at hrb; cases hrb
  have g1 : ∀ c' x, (h1.put rb x).get c' = if c' = rb then x else h1.get c' := fun c' x => Hp.get_put h1 rb c' x l2
  rw [Hp.get_put _ pb b _ (show pb < (h1.put rb _).next from l1), g1]
  by_cases e1 : b = pb
  · subst e1
    rw [if_pos rfl, hpb]
    show some (Blk.cells [den (.slice (some ⟨rb, o, none⟩) xs.length cap), den c] false) = some (Blk.cells [den a, den c] false)
    rw [hda]; rfl
  · rw [if_neg e1]
    by_cases e2 : b = rb
    · subst e2
      rw [if_pos rfl, hrb]
      show some (Blk.cells ((xs.map fun x => mk (.int .u8 x)).map den) false) = some (Blk.cells ((xs.map (Value.int .u8)).map den) false)
      rw [List.map_map, List.map_map]
      rfl
    · rw [if_neg e2]
end Go.Abs
