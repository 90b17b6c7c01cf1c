/-
  THE ABSTRACT EVALUATOR AND THE MODEL: append, copy, and with them all operations that write memory.
-/
import Derived.Test.YtolkoacllaaceaaAbs10
namespace Go.Abs
open Go

section
variable {P : Program} {μ : Mu} {base : Nat} {w : World}

/-- A new block of the heap that takes an old one's place in the world. -/
theorem sim_move {g : Gm} {w' : World} {o : Obj} {b b' : Nat} {x x' : Blk} {p q : Pl} (hr : Rel μ base g w) (hp : μ b = some p) (hg : g b = some x) (ho : ownB x = true) (hb' : μ b' = none)
    (hq : q.c = p.c) (hc : Chg w w' p.c o) (hx : BR (Mu.upd μ b' q) base w' q x') (ho' : ownB x' = true) (hqs : p.s ≤ q.s) (hpre : ∀ arr e fr, w.heap[p.c]? = some (.cells arr e fr) → ∃ arr' e' fr', w'.heap[p.c]? = some (.cells arr' e' fr') ∧ ∀ i, i < p.s → arr'[i]? = arr[i]?) :
    Sim μ base g w (Mu.upd μ b' q) (fun c => if c = b' then some x' else if c = b then none else g c) w' := by
  have hle := Mu.le_upd (p := q) hb'
  have hbb : b ≠ b' := fun e => by subst e; rw [hb'] at hp; cases hp
  refine ⟨hle, ⟨by rw [hc.size]; exact hr.size, fun c r y hcr hy => ?_, fun c c' r r' y y' hcr hcr' hy hy' hne hoy => ?_, fun d i a hd => ?_⟩,
    ⟨hc.os, hc.tape, hc.output, by rw [hc.size]; exact Nat.le_refl _, fun d _ hn => hc.other d (fun e => hn b p x hp hg ho e.symm)⟩, fun c r y hcr hy => ?_, fun _ _ _ h => .inl h⟩
  · by_cases e : c = b'
    · subst e
      rw [Mu.upd_same] at hcr
      simp at hcr hy; subst hcr; subst hy; exact hx
    · rw [Mu.upd_other e] at hcr
      simp only [if_neg e] at hy
      by_cases e2 : c = b
      · simp [e2] at hy
      · simp only [if_neg e2] at hy
        have hb := hr.blk c r y hcr hy
        exact hb.keep hle (hc.other _ (fun e' => hr.inj b c p r x y hp hcr hg hy (fun h => e2 h.symm) ho e'.symm))
  · by_cases e : c = b'
    · subst e
      have e' : c' ≠ c := fun h => hne h.symm
      rw [Mu.upd_same] at hcr; rw [Mu.upd_other e'] at hcr'
      simp at hcr; subst hcr
      simp only [if_neg e'] at hy'
      by_cases e2 : c' = b
      · simp [e2] at hy'
      · simp only [if_neg e2] at hy'
        rw [hq]
        exact hr.inj b c' p r' x y' hp hcr' hg hy' (fun h => e2 h.symm) ho
    · rw [Mu.upd_other e] at hcr
      simp only [if_neg e] at hy
      by_cases e2 : c = b
      · simp [e2] at hy
      · simp only [if_neg e2] at hy
        by_cases e3 : c' = b'
        · subst e3
          rw [Mu.upd_same] at hcr'
          simp at hcr'; subst hcr'
          rw [hq]
          intro h
          exact hr.inj c b r p y x hcr hp hy hg e2 hoy h
        · rw [Mu.upd_other e3] at hcr'
          simp only [if_neg e3] at hy'
          by_cases e4 : c' = b
          · simp [e4] at hy'
          · simp only [if_neg e4] at hy'
            exact hr.inj c c' r r' y y' hcr hcr' hy hy' hne hoy
  · obtain ⟨⟨arr, e, fr, h1, h3⟩, h2⟩ := hr.frz d i a hd
    refine ⟨?_, fun c r y hcr hy hoy hcc => ?_⟩
    · by_cases e4 : d = p.c
      · subst e4
        have hi := h2 b p x hp hg ho rfl
        obtain ⟨arr', e', fr', h5, h6⟩ := hpre arr e fr h1
        exact ⟨arr', e', fr', h5, (h6 i hi).trans h3⟩
      · exact ⟨arr, e, fr, (hc.other d e4).trans h1, h3⟩
    · by_cases e3 : c = b'
      · subst e3; rw [Mu.upd_same] at hcr; simp at hcr; subst hcr; exact Nat.lt_of_lt_of_le (h2 b p x hp hg ho (hq.symm.trans hcc)) hqs
      · rw [Mu.upd_other e3] at hcr
        simp only [if_neg e3] at hy
        by_cases e4 : c = b
        · simp [e4] at hy
        · simp only [if_neg e4] at hy; exact h2 c r y hcr hy hoy hcc
  · by_cases e : c = b'
    · subst e
      rw [Mu.upd_same] at hcr
      simp at hcr hy; subst hcr; subst hy
      exact .inr ⟨b, p, x, hp, hg, fun _ => by have := ho'; exact ho, hq.symm⟩
    · rw [Mu.upd_other e] at hcr
      simp only [if_neg e] at hy
      by_cases e2 : c = b
      · simp [e2] at hy
      · simp only [if_neg e2] at hy
        exact .inr ⟨c, r, y, hcr, hy, id, rfl⟩

/-- What of a result that may name a block of the next number. -/
structure Out (μ : Mu) (base : Nat) (h : Hp) (w : World) (v : Value) (h' : Hp) (v' : Value) (w' : World) (μ' : Mu) : Prop where
  val : VR μ' v v'
  sim : Sim μ base h.get w μ' h'.get w'
  next : h.next ≤ h'.next
  dom : ∀ b, μ' b ≠ μ b → h.next ≤ b ∧ b < h'.next
  keep : Keeps μ h h'

theorem Out.same {h h' : Hp} {v v' : Value} {w' : World} (hv : VR μ v v') (hs : Sim μ base h.get w μ h'.get w') (hn : h'.next = h.next) (hk : Keeps μ h h') : Out μ base h w v h' v' w' μ :=
  ⟨hv, hs, by omega, fun _ hb => absurd rfl hb, hk⟩

theorem dom_upd {h h' : Hp} {p : Pl} (hn : h'.next = h.next + 1) : ∀ b, Mu.upd μ h.next p b ≠ μ b → h.next ≤ b ∧ b < h'.next := by
  intro b hb
  by_cases e : b = h.next
  · omega
  · exact absurd (Mu.upd_other e) hb

/-- A row that append has made. -/
theorem grown_BR {μ' : Mu} {cs olds news : List Value} {arr : Array Value} {e : TypeId} {c : Nat} (hw : w.heap[c]? = some (.cells arr e (0, 0))) (hc : base ≤ c)
    (h1 : All2 (VR1 μ') olds cs) {news' : List Value} (h2 : All2 (VR1 μ') news news') {rest : List Value} (harr : arr.toList = cs ++ news' ++ rest) : BR μ' base w ⟨c, 0, arr.size⟩ (.cells (olds ++ news) false) := by
  refine ⟨arr, e, (0, 0), hw, rfl, fun i v hi => ?_, fun _ => ⟨hc, fun i _ => by simp, fun _ => rfl⟩⟩
  obtain ⟨v', h3, h4⟩ := (h1.append h2).2 i v hi
  refine ⟨v', ?_, h4⟩
  rw [Nat.zero_add, ← Array.getElem?_toList, harr, List.getElem?_append, if_pos (List.getElem?_eq_some_iff.1 h3).1]
  exact h3

theorem splice_get : ∀ (vs l : List Value) (o : Nat), o + vs.length ≤ l.length → ∀ {i : Nat}, (spliceL l o vs)[i]? = if o ≤ i ∧ i < o + vs.length then vs[i - o]? else l[i]?
  | [], l, o, _, i => by simp [spliceL]; omega
  | v :: r, l, o, h, i => by
    simp only [List.length_cons] at h
    unfold spliceL
    rw [splice_get r (l.set o v) (o + 1) (by simp; omega), List.getElem?_set]
    simp only [List.length_cons]
    by_cases h1 : i = o
    · subst h1
      rw [if_neg (by omega), if_pos rfl, if_pos (by omega), if_pos (by omega)]
      simp
    · by_cases h2 : o + 1 ≤ i ∧ i < o + 1 + r.length
      · rw [if_pos h2, if_pos (by omega)]
        rw [show i - o = (i - (o + 1)) + 1 from by omega]
        simp
      · rw [if_neg h2, if_neg (fun e => h1 e.symm), if_neg (by omega)]

theorem size_zeroC (z : Array Value) (n : Nat) : (Builtin.zeroCells z n).size = n * z.size := by simp [Builtin.zeroCells]

theorem appendA_run {argTypes : Array TypeId} {ty st xt : TypeId} {args : Array Value} {s s' x x' v : Value} {h h' : Hp} (hs : appendA P st xt s x h = some (v, h'))
    (h0 : argTypes[0]? = some st) (h1 : argTypes[1]? = some xt) (ha0 : args[0]? = some s') (ha1 : args[1]? = some x') (hr : Rel μ base h.get w) (hfr0 : h.next < h'.next → μ h.next = none)
    (hsv : VR μ s s') (hx : VR μ x x') :
    ∃ v' w' μ', (Builtin.append_ argTypes ty args).run P w = .ok v' w' ∧ Out μ base h w v h' v' w' μ' := by
  unfold appendA at hs
  split at hs
  · rename_i e hu
    split at hs
    · rename_i i z hi hz
      obtain ⟨hzr, hzp⟩ := zeroA_run hz w
      have hiz : i.zero = some z := by
        unfold zeroA at hz
        simp only [hi] at hz
        split at hz
        · rename_i z0 hz0
          split at hz
          · simp at hz; subst hz; exact hz0
          · cases hz
        · cases hz
      split at hs
      · rename_i hsz
        split at hs
        · rename_i m news hsrc
          obtain ⟨news', src, hnr, hns, hnl⟩ := sourceA_run (e := e) hsrc hr hx (.inr ⟨rfl, hzp, hsz.2⟩)
          -- a new row
          have grow : ∀ (bs : Option Addr) (len cap : Nat) (olds : List Value) (olds' : Array Value), s' = .slice bs len cap → cap < len + m → len + m ≤ 4611686018427387904 → (len + m) * i.bytes ≤ 140737488355328 →
              (Builtin.firstCells i.size len (.slice bs len cap)).run P w.drew = .ok olds' w.drew → All2 (VR1 μ) olds olds'.toList → olds'.size = len * i.size →
              v = .slice (some ⟨h.next, 0, none⟩) (len + m) (unk i.size) → ∀ g0 : Gm, (h'.get = fun c => if c = h.next then some (.cells (olds ++ news) false) else g0 c) → (∀ b p x, μ b = some p → g0 b = some x → h.get b = some x) → h'.next = h.next + 1 → Keeps μ h h' → m * i.bytes ≤ 140737488355328 →
              ∃ v' w' μ', (Builtin.append_ argTypes ty args).run P w = .ok v' w' ∧ Out μ base h w v h' v' w' μ' := by
            intro bs len cap olds olds' hs' hcap h62 hby hfo hor hos hv g0 hg' hg0 hn hkeep hmb
            subst hs'
            have hfr := hfr0 (by omega)
            have hle : ∀ p, Mu.le μ (Mu.upd μ h.next p) := fun p => Mu.le_upd hfr
            obtain ⟨_, hrun⟩ := append_run (ty := ty) h0 h1 ha0 ha1 hu hi hiz hsz.2 hsz.1 hmb src
            have hrun := hrun hcap h62 hby olds' hfo
            have hgr := grow_drew_alloc w (.cells (olds' ++ news' ++ Builtin.zeroCells z.cells (grownCap w (len + m) cap e - (len + m))) e)
            have hge := grownCap_ge w (len + m) cap e
            refine ⟨_, _, Mu.upd μ h.next ⟨w.heap.size, 0, (olds' ++ news' ++ Builtin.zeroCells z.cells (grownCap w (len + m) cap e - (len + m))).size⟩, hrun, ?_, ?_, by omega, dom_upd hn, hkeep⟩
            · rw [hv]
              refine .zero (.slice (Mu.upd_same _ _ _) hge (.inl ⟨UNK0_le_unk _, ?_⟩))
              rw [unk_sub]
              simp only [Array.size_append, size_zeroC, hos, hns, hnl, hsz.2]
              rw [← Nat.add_mul, ← Nat.add_mul]
              apply Nat.le_of_eq
              simp only [Nat.zero_add]
              congr 1
              omega
            · rw [hg']
              have hrel0 : Rel μ base g0 w := hr.less hg0
              have := sim_new (x := .cells (olds ++ news) false) (p := ⟨w.heap.size, 0, _⟩) hrel0 hgr hfr rfl
                (grown_BR (rest := (Builtin.zeroCells z.cells (grownCap w (len + m) cap e - (len + m))).toList) hgr.new hr.size (hor.mono fun _ _ _ r => r.mono (hle _)) (hnr.mono fun _ _ _ r => r.mono (hle _)) (by simp))
              exact ⟨this.le, this.rel, ⟨this.fr.os, this.fr.tape, this.fr.output, this.fr.size, fun c hc hn => hgr.old c hc⟩, fun b p x hb hx => by
                rcases this.own b p x hb hx with h3 | ⟨b0, p0, x0, h3, h4, h5, h6⟩
                · exact .inl h3
                · exact .inr ⟨b0, p0, x0, h3, hg0 b0 p0 x0 h3 h4, h5, h6⟩, fun _ _ _ h => .inl h⟩
          split at hs
          · -- nothing is appended
            rename_i hm
            subst hm
            split at hs
            · rename_i bs len cap
              simp only [Option.some.injEq, Prod.mk.injEq] at hs
              obtain ⟨rfl, rfl⟩ := hs
              have hnil : news'.toList = [] := by
                apply List.eq_nil_of_length_eq_zero
                rw [Array.length_toList, hns, hnl]; omega
              have hsv' : ∃ bs' len' cap', s' = .slice bs' len' cap' ∧ len' ≤ cap' := by
                cases bs with
                | none => obtain ⟨_, _, rfl⟩ := hsv.inv_slice_nil; exact ⟨_, _, _, rfl, Nat.le_refl _⟩
                | some a =>
                  obtain ⟨b, o, sp⟩ := a
                  cases sp with
                  | none =>
                    rcases hsv.inv_slice with ⟨p, k', _, rfl, h3, _⟩ | ⟨_, _, a', _, rfl⟩
                    · exact ⟨_, _, _, rfl, h3⟩
                    · exact ⟨_, _, _, rfl, Nat.le_refl _⟩
                  | some j => exact (hsv.inv_slice_spot).elim
              obtain ⟨bs', len', cap', rfl, hlc⟩ := hsv'
              obtain ⟨hrun, _⟩ := append_run (ty := ty) h0 h1 ha0 ha1 hu hi hiz hsz.2 hsz.1 (by omega) src
              refine ⟨_, w, μ, ?_, Out.same hsv (Sim.refl hr) rfl (.refl μ _)⟩
              rw [hrun (by omega)]
              unfold apRoom
              cases bs' with
              | none => rfl
              | some a => rw [hnil]; rfl
            · cases hs
          · rename_i hm
            split at hs
            · -- onto nil
              split at hs
              · rename_i hb
                simp only [Option.some.injEq, Prod.mk.injEq] at hs
                obtain ⟨rfl, rfl⟩ := hs
                have := hsv.eq_of_plain (v := .slice none 0 0) rfl; subst this
                exact grow none 0 0 [] #[] rfl (by omega) (by omega) (by simpa using hb.1) (run_firstCells_none _ _ _ _ _) All2.nil (by simp) (by simp) h.get (by rw [get_push_fun]; simp) (fun _ _ _ _ h => h) rfl (.push μ h _) hb.1
              · cases hs
            · rename_i b o len cap
              split at hs
              · rename_i hb
                have hmb : m * i.bytes ≤ 140737488355328 := by
                  have : m * i.bytes ≤ (len + m) * i.bytes := Nat.mul_le_mul_right _ (by omega)
                  omega
                split at hs
                · -- a capacity that is not known
                  rename_i hun
                  have hun' := isUnk_iff.1 hun
                  split at hs
                  · rename_i cs hg
                    split at hs
                    · rename_i hc
                      simp only [Option.some.injEq, Prod.mk.injEq] at hs
                      obtain ⟨rfl, rfl⟩ := hs
                      have hcells : h.cells b o (len * i.size) = some ((cs.drop o).take (len * i.size)) := by
                        unfold Hp.cells Hp.row; rw [hg]; simp [hc.2.1]
                      have hbn := Hp.lt_of_get hg
                      have hget : ((h.put b none).push (.cells ((cs.drop o).take (len * i.size) ++ news) false)).get = fun c => if c = h.next then some (.cells ((cs.drop o).take (len * i.size) ++ news) false) else (h.put b none).get c := by
                        rw [get_push_fun]; rfl
                      have hless : ∀ c p x, μ c = some p → (h.put b none).get c = some x → h.get c = some x := by
                        intro c p x _ hx
                        rw [Hp.get_put _ _ _ _ hbn] at hx
                        split at hx
                        · cases hx
                        · exact hx
                      rcases hsv.inv_slice with ⟨p, k', hp, rfl, hlk, hk⟩ | ⟨rfl, hk, a', ⟨p0, hp0⟩, rfl⟩
                      · obtain ⟨olds', ho1, ho2, ho3⟩ := cells_run hcells hr hp
                        have hkeep : Keeps μ h ((h.put b none).push (.cells ((cs.drop o).take (len * i.size) ++ news) false)) := by
                          intro c hc' hn
                          rw [Hp.get_push, if_neg (by simp; omega)]
                          exact Keeps.put hp hbn c hc' hn
                        by_cases hroom : len + m ≤ k'
                        · -- in the room that there is
                          have hfr := hfr0 (Nat.lt_succ_self _)
                          have hle : ∀ p, Mu.le μ (Mu.upd μ h.next p) := fun p => Mu.le_upd hfr
                          obtain ⟨hrun, _⟩ := append_run (ty := ty) h0 h1 ha0 ha1 hu hi hiz hsz.2 hsz.1 hmb src
                          have hrun := hrun hroom
                          obtain ⟨arr, et, fr, hw1, hw2, hw3, hw4⟩ := hr.blk b p _ hp hg
                          obtain ⟨hpb, hpf, hps⟩ := hw4 rfl
                          have hN : o + p.s + k' * i.size ≤ p.N := by
                            rcases hk with ⟨_, hk⟩ | ⟨_, hk⟩
                            · rw [hc.1, unk_sub] at hk; exact hk
                            · omega
                          have hmul : (len + m) * i.size ≤ k' * i.size := Nat.mul_le_mul_right _ hroom
                          rw [Nat.add_mul] at hmul
                          have hin : ∀ j, j < news'.toList.length → o + p.s + len * i.size + j < arr.size := by
                            intro j hj
                            rw [Array.length_toList, hns, hnl] at hj
                            omega
                          have hst := run_storeCells_cells (P := P) p.c (o + p.s + len * i.size) news'.toList 0 w (fun j hj => by
                              rw [Nat.add_zero, cell_of_row w p.c _ arr et fr hw1, Array.getElem?_eq_getElem (hin j hj)]; rfl)
                            (fun j hj => by
                              simp only [World.frozen?, hw1, Nat.add_zero]
                              have := hpf _ (hin j hj)
                              simpa using this)
                            (fun v hv => by
                              obtain ⟨j, hj⟩ := List.mem_iff_getElem?.1 hv
                              rcases hnr.get j with ⟨_, e2⟩ | ⟨x, y, _, e2, r⟩
                              · rw [e2] at hj; cases hj
                              · rw [e2] at hj; simp at hj; subst hj; exact r.oneCell.2)
                          rw [Nat.add_zero] at hst
                          have hch := chg_setCells p.c et fr news'.toList (o + p.s + len * i.size) w arr hw1
                          refine ⟨.slice (some ⟨p.c, 0 + (o + p.s), none⟩) (len + m) k', w.setCells p.c (o + p.s + len * i.size) news'.toList, Mu.upd μ h.next ⟨p.c, o + p.s, p.N⟩, ?_, ?_, ?_, Nat.le_succ _, dom_upd rfl, hkeep⟩
                          · rw [hrun]
                            unfold apRoom
                            have hadd : (⟨p.c, o + p.s, none⟩ : Addr).add (len * i.size) = ⟨p.c, o + p.s + len * i.size, none⟩ := by
                              unfold Addr.add; split
                              · simp_all
                              · rfl
                            simp only [hadd, hst, Result.andThen_ok, Nat.zero_add]
                          · refine .zero (.slice (p := ⟨p.c, o + p.s, p.N⟩) (Mu.upd_same _ _ _) hroom (.inl ⟨hun', ?_⟩))
                            rw [hc.1, unk_sub]
                            simpa using hN
                          · rw [hget]
                            have hfun : (fun c => if c = h.next then some (Blk.cells ((cs.drop o).take (len * i.size) ++ news) false) else (h.put b none).get c) =
                                (fun c => if c = h.next then some (Blk.cells ((cs.drop o).take (len * i.size) ++ news) false) else if c = b then none else h.get c) := by
                              funext c; rw [Hp.get_put _ _ _ _ hbn]
                            rw [hfun]
                            refine sim_move hr hp hg rfl hfr rfl hch ⟨_, et, fr, hch.at_, by simp [length_splice]; exact hw2, ?_, fun _ => ⟨hpb, by simpa [length_splice] using hpf, fun hl => by rw [List.length_append, List.length_take, List.length_drop, Nat.min_eq_left (by omega)] at hl; exact absurd hl hc.2.2⟩⟩ rfl (Nat.le_add_left _ _) (pre_splice hw1 hch.at_ (by omega))
                            intro j v hj
                            have hlo : ((cs.drop o).take (len * i.size)).length = len * i.size := by
                              rw [List.length_take, List.length_drop]; omega
                            simp only [List.getElem?_toArray]
                            have hlsz : o + p.s + len * i.size + news'.toList.length ≤ arr.toList.length := by
                              rw [Array.length_toList, Array.length_toList, hns, hnl]; omega
                            rw [splice_get _ _ _ hlsz]
                            rw [List.getElem?_append] at hj
                            split at hj
                            · rename_i hlt
                              rw [hlo] at hlt
                              rw [if_neg (by omega)]
                              rw [List.getElem?_take, if_pos hlt, List.getElem?_drop] at hj
                              obtain ⟨v', h3, h4⟩ := hw3 (o + j) v hj
                              exact ⟨v', by rw [Array.getElem?_toList, ← h3]; congr 1; omega, h4.mono (hle _)⟩
                            · rename_i hge
                              rw [hlo] at hge hj
                              obtain ⟨v', h3, h4⟩ := hnr.2 _ v hj
                              have hlt2 := (List.getElem?_eq_some_iff.1 h3).1
                              rw [if_pos (by omega)]
                              exact ⟨v', by rw [← h3]; congr 1; omega, h4.mono (hle _)⟩
                        · -- no room
                          exact grow _ len k' _ olds'.toArray rfl (by omega) hb.2 hb.1 (run_firstCells_some w.drew i.size len _ len k' olds' ho2 (by simpa using ho3)) (by simpa using ho1) (by simpa using ho2)
                            (by rw [hc.1]) _ hget hless rfl hkeep hmb
                      · have hkeep : Keeps μ h ((h.put b none).push (.cells ((cs.drop o).take (0 * i.size) ++ news) false)) := by
                          intro c hc' hn
                          rw [Hp.get_push, if_neg (by simp; omega)]
                          exact Keeps.put hp0 hbn c hc' hn
                        refine grow _ 0 0 [] #[] rfl (by omega) hb.2 hb.1 (run_firstCells_some w.drew i.size 0 a' 0 0 [] (by simp) (by simp)) All2.nil (by simp) (by rw [hc.1]) _ (by rw [hget]; simp) hless rfl hkeep hmb
                    · cases hs
                  · cases hs
                · rename_i hkn
                  have hkn' := isUnk_false.1 (by simpa using hkn)
                  split at hs
                  · -- in the room that there is
                    rename_i hroom
                    split at hs
                    · rename_i cs hg
                      split at hs
                      · rename_i hc
                        simp only [Option.some.injEq, Prod.mk.injEq] at hs
                        obtain ⟨rfl, rfl⟩ := hs
                        rcases hsv.inv_slice with ⟨p, k', hp, rfl, hlk, hk⟩ | ⟨rfl, hk, a', ⟨p0, hp0⟩, rfl⟩
                        · have hkk : cap = k' := by
                            rcases hk with ⟨hk, _⟩ | ⟨hk, _⟩
                            · omega
                            · exact hk
                          subst hkk
                          obtain ⟨hrun, _⟩ := append_run (ty := ty) h0 h1 ha0 ha1 hu hi hiz hsz.2 hsz.1 hmb src
                          have hrun := hrun hroom
                          obtain ⟨w', h3, h4⟩ := sim_splice (P := P) hr hp hg (o := o + len * i.size) (by rw [hnl]; rw [Nat.add_mul] at hc; omega) hnr
                          refine ⟨_, w', μ, ?_, Out.same (.zero (.slice hp hroom (.inr ⟨rfl, hkn'⟩))) (by rw [get_put_fun (Hp.lt_of_get hg)]; exact h4) rfl (.put hp (Hp.lt_of_get hg))⟩
                          rw [hrun]
                          unfold apRoom
                          simp only [add_rel, h3, Result.andThen_ok]
                        · omega
                      · cases hs
                    · cases hs
                  · -- no room
                    rename_i hroom
                    split at hs
                    · rename_i olds hcells
                      simp only [Option.some.injEq, Prod.mk.injEq] at hs
                      obtain ⟨rfl, rfl⟩ := hs
                      have hget := get_push_fun h (.cells (olds ++ news) false)
                      rcases hsv.inv_slice with ⟨p, k', hp, rfl, hlk, hk⟩ | ⟨rfl, hk, a', ⟨p0, hp0⟩, rfl⟩
                      · have hkk : cap = k' := by
                          rcases hk with ⟨hk, _⟩ | ⟨hk, _⟩
                          · omega
                          · exact hk
                        subst hkk
                        obtain ⟨olds', ho1, ho2, ho3⟩ := cells_run hcells hr hp
                        exact grow _ len cap _ olds'.toArray rfl (by omega) hb.2 hb.1 (run_firstCells_some w.drew i.size len _ len cap olds' ho2 (by simpa using ho3)) (by simpa using ho1) (by simpa using ho2)
                          rfl _ hget (fun _ _ _ _ h => h) rfl (.push μ h _) hmb
                      · have hol : olds = [] := by
                          unfold Hp.cells at hcells
                          split at hcells
                          · split at hcells
                            · simp at hcells; exact hcells
                            · cases hcells
                          · cases hcells
                        subst hol
                        exact grow _ 0 0 [] #[] rfl (by omega) hb.2 hb.1 (run_firstCells_some w.drew i.size 0 a' 0 0 [] (by simp) (by simp)) All2.nil (by simp) rfl _ hget (fun _ _ _ _ h => h) rfl (.push μ h _) hmb
                    · cases hs
              · cases hs
            · cases hs
        · cases hs
      · cases hs
    · cases hs
  · cases hs
end
end Go.Abs
