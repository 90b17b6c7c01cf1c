/-
  THE ABSTRACT EVALUATOR AND THE MODEL: operations that write memory: stores, maps.
-/
import Derived.Test.YtolkoacllaaceaaAbs8
import Derived.Laws.IdiomCopy
namespace Go.Abs
open Go

/-- One block has turned. -/
structure Chg (w w' : World) (c : Nat) (o : Obj) : Prop where
  os : w'.os = w.os
  tape : w'.tape = w.tape
  output : w'.output = w.output
  size : w'.heap.size = w.heap.size
  other : ∀ d, d ≠ c → w'.heap[d]? = w.heap[d]?
  at_ : w'.heap[c]? = some o

theorem chg_setCell {w : World} {c : Nat} {arr : Array Value} {e : TypeId} {fr : Nat × Nat} (h : w.heap[c]? = some (.cells arr e fr)) (o : Nat) (v : Value) :
    Chg w (w.setCell ⟨c, o, none⟩ v) c (.cells (arr.setIfInBounds o v) e fr) := by
  refine ⟨rfl, rfl, rfl, by simp [World.setCell], fun d hd => RowKit.Below.heap_setCell _ _ _ _ hd, ?_⟩
  simp only [World.setCell, Array.getElem?_modify, h]
  rfl

theorem chg_setCells (c : Nat) (e : TypeId) (fr : Nat × Nat) : ∀ (vs : List Value) (o : Nat) (w : World) (arr : Array Value), w.heap[c]? = some (.cells arr e fr) →
    Chg w (w.setCells c o vs) c (.cells (spliceL arr.toList o vs).toArray e fr)
  | [], o, w, arr, h => ⟨rfl, rfl, rfl, rfl, fun _ _ => rfl, by simpa [World.setCells, spliceL] using h⟩
  | v :: r, o, w, arr, h => by
    have h1 := chg_setCell h o v
    have h2 := chg_setCells c e fr r (o + 1) _ _ h1.at_
    refine ⟨h2.os.trans h1.os, h2.tape.trans h1.tape, h2.output.trans h1.output, h2.size.trans h1.size, fun d hd => (h2.other d hd).trans (h1.other d hd), ?_⟩
    have := h2.at_
    simp only [Array.toList_setIfInBounds] at this
    exact this

section
variable {P : Program} {μ : Mu} {base : Nat} {w : World}

/-- A block of the heap has turned, and the world's block that holds it. -/
theorem sim_put {g : Gm} {w' : World} {o : Obj} {b : Nat} {x x' : Blk} {p : Pl} (hr : Rel μ base g w) (hp : μ b = some p) (hg : g b = some x) (ho : ownB x = true) (hc : Chg w w' p.c o)
    (hx : BR μ base w' p x') (ho' : ownB x' = true) (hpre : ∀ arr e fr, w.heap[p.c]? = some (.cells arr e fr) → ∃ arr' e' fr', w'.heap[p.c]? = some (.cells arr' e' fr') ∧ ∀ i, i < p.s → arr'[i]? = arr[i]?) : Sim μ base g w μ (fun c => if c = b then some x' else g c) w' := by
  have own' : ∀ c y, (if c = b then some x' else g c) = some y → ∃ y0, g c = some y0 := by
    intro c y h
    by_cases e : c = b
    · subst e; exact ⟨x, hg⟩
    · rw [if_neg e] at h; exact ⟨y, h⟩
  refine ⟨Mu.le_refl μ, ⟨by rw [hc.size]; exact hr.size, fun c q y hcq hy => ?_, fun c c' q q' y y' hcq hcq' hy hy' hne hoy => ?_, fun d i a hd => ?_⟩,
    ⟨hc.os, hc.tape, hc.output, by rw [hc.size]; exact Nat.le_refl _, fun d _ hn => hc.other d (fun e => hn b p x hp hg ho e.symm)⟩, fun c q y hcq hy => ?_, fun _ _ _ h => .inl h⟩
  · by_cases e : c = b
    · subst e
      rw [hp] at hcq; simp at hcq hy; subst hcq; subst hy; exact hx
    · simp only [if_neg e] at hy
      have hb := hr.blk c q y hcq hy
      exact hb.keep (Mu.le_refl μ) (hc.other _ (fun e' => hr.inj b c p q x y hp hcq hg hy (fun h => e h.symm) ho e'.symm))
  · by_cases e : c = b
    · subst e
      simp only [if_neg (fun h : c' = c => hne h.symm)] at hy'
      exact hr.inj c c' q q' x y' hcq hcq' hg hy' hne ho
    · simp only [if_neg e] at hy
      by_cases e' : c' = b
      · subst e'; exact hr.inj c c' q q' y x hcq hcq' hy hg hne hoy
      · simp only [if_neg e'] at hy'; exact hr.inj c c' q q' y y' hcq hcq' hy hy' hne hoy
  · obtain ⟨⟨arr, e, fr, h1, h3⟩, h2⟩ := hr.frz d i a hd
    refine ⟨?_, fun c q y hcq hy hoy hcc => ?_⟩
    · by_cases e4 : d = p.c
      · subst e4
        have hi := h2 b p x hp hg ho rfl
        obtain ⟨arr', e', fr', h5, h6⟩ := hpre arr e fr h1
        exact ⟨arr', e', fr', h5, (h6 i hi).trans h3⟩
      · exact ⟨arr, e, fr, (hc.other d e4).trans h1, h3⟩
    · by_cases e3 : c = b
      · subst e3; rw [hp] at hcq; simp at hcq; subst hcq; exact h2 c p x hp hg ho hcc
      · simp only [if_neg e3] at hy; exact h2 c q y hcq hy hoy hcc
  · right
    by_cases e : c = b
    · subst e
      simp at hy; subst hy
      exact ⟨c, q, x, hcq, hg, fun _ => by have := ho'; exact ho, rfl⟩
    · simp only [if_neg e] at hy; exact ⟨c, q, y, hcq, hy, id, rfl⟩

theorem splice_low : ∀ (vs l : List Value) (o : Nat) {i : Nat}, i < o → (spliceL l o vs)[i]? = l[i]?
  | [], _, _, _, _ => rfl
  | v :: r, l, o, i, h => by
    show (spliceL (l.set o v) (o + 1) r)[i]? = _
    rw [splice_low r _ _ (by omega), List.getElem?_set_ne (by omega)]
theorem pre_splice {w' : World} {c o s : Nat} {arr : Array Value} {e : TypeId} {fr : Nat × Nat} {vs : List Value} (h1 : w.heap[c]? = some (.cells arr e fr)) (h2 : w'.heap[c]? = some (.cells (spliceL arr.toList o vs).toArray e fr)) (ho : s ≤ o) :
    ∀ arr e fr, w.heap[c]? = some (.cells arr e fr) → ∃ arr' e' fr', w'.heap[c]? = some (.cells arr' e' fr') ∧ ∀ i, i < s → arr'[i]? = arr[i]? := by
  intro arr' e' fr' h3
  rw [h1] at h3
  simp only [Option.some.injEq, Obj.cells.injEq] at h3
  obtain ⟨rfl, rfl, rfl⟩ := h3
  refine ⟨_, _, _, h2, fun i hi => ?_⟩
  rw [List.getElem?_toArray, splice_low _ _ _ (by omega), Array.getElem?_toList]

/-- Cells written over, of a row and of the world's row. -/
theorem sim_splice {g : Gm} {b : Nat} {p : Pl} {cs vs vs' : List Value} (hr : Rel μ base g w) (hp : μ b = some p) (hg : g b = some (.cells cs false)) {o : Nat} (ho : o + vs.length ≤ cs.length)
    (hv : All2 (VR1 μ) vs vs') : ∃ w', (storeCells (⟨p.c, o + p.s, none⟩ : Addr) vs').run P w = .ok () w' ∧
      Sim μ base g w μ (fun c => if c = b then some (.cells (spliceL cs o vs) false) else g c) w' := by
  obtain ⟨arr, e, fr, h1, h2, h3, h4⟩ := hr.blk b p _ hp hg
  obtain ⟨hb, hf, hs0⟩ := h4 rfl
  have hlen : vs'.length = vs.length := hv.1.symm
  have hin : ∀ j, j < vs'.length → ∃ u, arr[o + p.s + j]? = some u := by
    intro j hj
    obtain ⟨u, hu, _⟩ := h3 (o + j) _ (List.getElem?_eq_getElem (by omega))
    exact ⟨u, by rw [← hu]; congr 1; omega⟩
  have hrun := run_storeCells_cells (P := P) p.c (o + p.s) vs' 0 w (fun j hj => by
      obtain ⟨u, hu⟩ := hin j hj
      rw [Nat.add_zero, cell_of_row w p.c _ arr e fr h1, hu]; rfl)
    (fun j hj => by
      obtain ⟨u, hu⟩ := hin j hj
      have hlt := (Array.getElem?_eq_some_iff.1 hu).1
      simp only [World.frozen?, h1, Nat.add_zero]
      have := hf _ hlt
      simpa using this)
    (fun v hm => by
      obtain ⟨i, hi⟩ := List.mem_iff_getElem?.1 hm
      rcases hv.get i with ⟨_, e2⟩ | ⟨x, y, _, e2, r⟩
      · rw [e2] at hi; cases hi
      · rw [e2] at hi; simp at hi; subst hi; exact r.oneCell.2)
  rw [Nat.add_zero] at hrun
  have hch := chg_setCells p.c e fr vs' (o + p.s) w arr h1
  refine ⟨_, hrun, sim_put hr hp hg rfl hch ⟨_, e, fr, hch.at_, by simp [length_splice]; exact h2, ?_, fun _ => ⟨hb, by simpa [length_splice] using hf, fun hl => hs0 (by rw [← hl, length_splice])⟩⟩ rfl (pre_splice h1 hch.at_ (Nat.le_add_left _ _))⟩
  -- the cells behind
  have key : ∀ (vs vs' : List Value) (o : Nat) (cs : List Value) (l : List Value), All2 (VR1 μ) vs vs' →
      (∀ (i : Nat) (v : Value), cs[i]? = some v → ∃ v', l[p.s + i]? = some v' ∧ VR1 μ v v') →
      ∀ (i : Nat) (v : Value), (spliceL cs o vs)[i]? = some v → ∃ v', (spliceL l (o + p.s) vs')[p.s + i]? = some v' ∧ VR1 μ v v' := by
    intro vs
    induction vs with
    | nil => intro vs' o cs l hv h i v hi; have := hv.inv_nil; subst this; exact h i v hi
    | cons u us ih =>
      intro vs' o cs l hv h i v hi
      obtain ⟨u', us', rfl, r, hr⟩ := hv.inv_cons
      unfold spliceL at hi ⊢
      have := ih us' (o + 1) (cs.set o u) (l.set (o + p.s) u') hr (fun j y hj => by
        rw [List.getElem?_set] at hj ⊢
        by_cases e : o = j
        · subst e
          rw [if_pos rfl] at hj
          split at hj
          · rename_i hlt
            simp at hj; subst hj
            obtain ⟨y', hy', _⟩ := h o _ (List.getElem?_eq_getElem hlt)
            have hlt' := (List.getElem?_eq_some_iff.1 hy').1
            exact ⟨u', by rw [if_pos (by omega), if_pos (by omega)], r⟩
          · cases hj
        · rw [if_neg e] at hj
          rw [if_neg (by omega)]
          exact h j y hj) i v hi
      rw [show o + p.s + 1 = o + 1 + p.s from by omega]
      exact this
  intro i v hi
  have := key vs vs' o cs arr.toList hv (fun i v h => by obtain ⟨v', a, b⟩ := h3 i v h; exact ⟨v', by rw [Array.getElem?_toList]; exact a, b⟩) i v hi
  simpa using this

theorem get_put_fun {h : Hp} {b : Nat} {x : Option Blk} (hb : b < h.next) : (h.put b x).get = fun c => if c = b then x else h.get c := funext fun c => Hp.get_put h b c x hb
theorem get_push_fun (h : Hp) (x : Blk) : (h.push x).get = fun c => if c = h.next then some x else h.get c := funext fun c => Hp.get_push h x c

/-- A block that stands for none stays as it was. -/
def Keeps (μ : Mu) (h h' : Hp) : Prop := ∀ c, c < h.next → μ c = none → h'.get c = h.get c ∨ h'.get c = none
theorem Keeps.refl (μ : Mu) (h : Hp) : Keeps μ h h := fun _ _ _ => .inl rfl
theorem Keeps.put {h : Hp} {b : Nat} {p : Pl} {x : Option Blk} (hp : μ b = some p) (hb : b < h.next) : Keeps μ h (h.put b x) := by
  intro c _ hc
  left
  rw [Hp.get_put _ _ _ _ hb, if_neg]
  intro e; subst e; rw [hp] at hc; cases hc
theorem Keeps.push (μ : Mu) (h : Hp) (x : Blk) : Keeps μ h (h.push x) := by
  intro c hc _
  left
  rw [Hp.get_push, if_neg (by omega)]

theorem storeA_run {t : TypeId} {a a' x x' : Value} {h h' : Hp} (hs : storeA P t a x h = some h') (hr : Rel μ base h.get w) (ha : VR μ a a') (hx : VR μ x x') :
    ∃ w', (Instr.storeAt t a' x').run P w = .ok () w' ∧ Sim μ base h.get w μ h'.get w' ∧ h'.next = h.next ∧ Keeps μ h h' := by
  unfold storeA at hs
  split at hs
  · rename_i b o
    obtain ⟨p, hp, rfl⟩ := ha.inv_ptr
    split at hs
    · rename_i n cs hn hg
      split at hs
      · rename_i hc
        simp only [Option.some.injEq] at hs; subst hs
        have hv := hx.cells hc.2.2
        obtain ⟨w', h1, h2⟩ := sim_splice (P := P) hr hp hg (o := o) (by rw [Array.length_toList, hc.1]; exact hc.2.1) hv
        refine ⟨w', ?_, by rw [get_put_fun (Hp.lt_of_get hg)]; exact h2, rfl, .put hp (Hp.lt_of_get hg)⟩
        have hsz : x'.cells.size = n := by rw [← hc.1, ← Array.length_toList, ← Array.length_toList, hv.1]
        simp [Instr.storeAt, Instr.sureAddr, storeVar, szA_run hn, hsz, h1]
      · cases hs
    · cases hs
  · cases hs

theorem modify_rel {es : List MapEntry} {es' : Array MapEntry} (h : All2 (ER μ) es es'.toList) (i : Nat) {f f' : MapEntry → MapEntry} (hf : ∀ e e', ER μ e e' → ER μ (f e) (f' e')) :
    All2 (ER μ) (es.modify i f) (es'.modify i f').toList := by
  rw [Array.toList_modify]
  refine ⟨by simp [h.1], fun j a ha => ?_⟩
  rw [List.getElem?_modify] at ha ⊢
  rcases h.get j with ⟨e1, e2⟩ | ⟨x, y, e1, e2, r⟩
  · rw [e1] at ha; simp at ha
  · rw [e1] at ha
    rw [e2]
    simp only [Option.map_some, Option.map_eq_map, Option.some.injEq] at ha ⊢
    subst ha
    split
    · exact ⟨_, rfl, hf x y r⟩
    · exact ⟨_, rfl, r⟩

theorem chg_setObj {r : Nat} {es es2 : Array MapEntry} {ck ck2 : Nat} (h : w.heap[r]? = some (.map es ck)) :
    ∃ w', (setObj r (.map es2 ck2)).run P w = .ok () w' ∧ Chg w w' r (.map es2 ck2) := by
  refine ⟨{ w with heap := w.heap.setIfInBounds r (.map es2 ck2) }, by simp [setObj, Sem.run, h], rfl, rfl, rfl, by simp, fun d hd => ?_, ?_⟩
  · exact Array.getElem?_setIfInBounds_ne (fun e => hd e.symm)
  · have := (Array.getElem?_eq_some_iff.1 h).1
    simp [this]

/-- A map of the heap turned. -/
theorem sim_map {g : Gm} {b : Nat} {p : Pl} {es es2 : List MapEntry} {es' es2' : Array MapEntry} {ck ck2 : Nat} (hr : Rel μ base g w) (hp : μ b = some p) (hg : g b = some (.map es ck))
    (hw : w.heap[p.c]? = some (.map es' ck)) (h2 : All2 (ER μ) es2 es2'.toList) :
    ∃ w', (setObj p.c (.map es2' ck2)).run P w = .ok () w' ∧ Sim μ base g w μ (fun c => if c = b then some (.map es2 ck2) else g c) w' := by
  obtain ⟨w', h3, h4⟩ := chg_setObj (P := P) (es2 := es2') (ck2 := ck2) hw
  obtain ⟨_, _, _, hb⟩ := hr.blk b p _ hp hg
  exact ⟨w', h3, sim_put hr hp hg rfl h4 ⟨es2', h4.at_, h2, hb⟩ rfl fun arr e fr h => (by rw [hw] at h; cases h)⟩

theorem VR.noTup {v v' : Value} (h : VR μ v v') (hn : noTuple v = true) : VRa μ v v' := by
  cases h with
  | a e => exact e
  | tup _ => simp [noTuple] at hn
  | dead => simp [noTuple, Abs.dead] at hn

theorem ba_eq {a b : ByteArray} (h : (a == b) = true) : a = b := by
  rw [beq_toListBytes, ByteArray.toList_eq, ByteArray.toList_eq, beq_iff_eq] at h
  exact ByteArray.ext (Array.toList_inj.1 h)
theorem ba_refl (a : ByteArray) : (a == a) = true := by
  rw [beq_toListBytes]; simp
theorem sameNow_eq {kd : TypeDesc} {a b : Value} (h : Instr.sameNow kd a b = some true) : a = b ∧ ∀ n, Instr.sameBits n b a = true := by
  unfold Instr.sameNow at h
  split at h
  · split at h
    · rename_i he
      simp at h; subst h; subst he
      exact ⟨rfl, fun n => by cases n <;> simp [Instr.sameBits]⟩
    · cases h
  · have := ba_eq (by simpa using h); subst this
    exact ⟨rfl, fun n => by cases n <;> simp [Instr.sameBits, ba_refl]⟩
  · simp at h; subst h; exact ⟨rfl, fun n => by cases n <;> simp [Instr.sameBits]⟩
  · cases h
theorem sameNow_bits {kd : TypeDesc} {a b : Value} (h : Instr.sameNow kd a b = some true) (n : Nat) : Instr.sameBits n b a = true := (sameNow_eq h).2 n

theorem findNow_some {kd : TypeDesc} {key : Value} : ∀ {es : List MapEntry} {i j : Nat} {v : Value}, Instr.findNow kd key es i = some (some (j, v)) →
    i ≤ j ∧ ∃ e, es[j - i]? = some e ∧ e.val = v ∧ Instr.sameNow kd key e.key = some true
  | [], i, j, v, h => by simp [Instr.findNow] at h
  | e :: es, i, j, v, h => by
    unfold Instr.findNow at h
    split at h
    · rename_i hs
      simp at h; obtain ⟨rfl, rfl⟩ := h
      exact ⟨Nat.le_refl _, e, by simp, rfl, hs⟩
    · obtain ⟨h1, e', h2, h3, h4⟩ := findNow_some h
      refine ⟨by omega, e', ?_, h3, h4⟩
      rw [show j - i = (j - (i + 1)) + 1 from by omega]
      simpa using h2
    · cases h

theorem keyStays_run {kd : TypeDesc} {key : Value} {es : List MapEntry} {es' : Array MapEntry} {j : Nat} {v : Value} (h : Instr.findNow kd key es 0 = some (some (j, v))) (hes : All2 (ER μ) es es'.toList) :
    (Instr.keyThatStays (((es'[j]?).map (·.key)).getD key) key).run P w = .ok key w := by
  obtain ⟨_, e, h2, h3, h4⟩ := findNow_some h
  rw [Nat.sub_zero] at h2
  obtain ⟨e', h5, h6⟩ := hes.2 j e h2
  rw [Array.getElem?_toList] at h5
  rw [h5]
  simp only [Option.map_some, Option.getD_some, h6.key]
  unfold Instr.keyThatStays
  rw [if_pos (sameNow_bits h4 10000)]
  rfl

theorem mapUpdateA_run {t : TypeId} {m m' key key' v v' : Value} {h h' : Hp} (hs : mapUpdateA P t m key v h = some h') (hr : Rel μ base h.get w) (hm : VR μ m m') (hk : VR μ key key') (hv : VR μ v v') :
    ∃ w', (Instr.mapUpdate t m' key' v').run P w = .ok () w' ∧ Sim μ base h.get w μ h'.get w' ∧ h'.next = h.next ∧ Keeps μ h h' := by
  unfold mapUpdateA at hs
  split at hs
  · rename_i kt et b hu
    obtain ⟨p, hp, rfl⟩ := hm.inv_map
    split at hs
    · rename_i kd es ck hku hg
      split at hs
      · rename_i hkk
        simp only [Bool.and_eq_true] at hkk
        have hpk : plainV key = true := by cases key <;> simp_all [plainV, plain1]
        have := hk.eq_of_plain hpk; subst this
        obtain ⟨es', hw, hes, hb⟩ := hr.blk b p _ hp hg
        have hva := hv.noTup hkk.2
        split at hs
        · rename_i j u hf
          simp only [Option.some.injEq] at hs; subst hs
          rcases findNow_rel hes hf with ⟨h1, _⟩ | ⟨j', v1, v2, h1, h2, h3⟩
          · cases h1
          · simp at h1; obtain ⟨rfl, rfl⟩ := h1
            have hmod := modify_rel hes j (f := fun e => { e with key := key', val := v }) (f' := fun e => { e with key := key', val := v' }) (fun e e' r => ⟨rfl, r.born, hva⟩)
            obtain ⟨w', h4, h5⟩ := sim_map (P := P) (ck2 := ck) hr hp hg hw hmod
            refine ⟨w', ?_, by rw [get_put_fun (Hp.lt_of_get hg)]; exact h5, rfl, .put hp (Hp.lt_of_get hg)⟩
            simp only [Instr.mapUpdate, Sem.run_bind, run_underlying hu, Result.andThen_ok, getObj_map hw, checkKey_run hku hkk.1.1, findKey_run hku h2, keyStays_run hf hes, h4]
        · rename_i hf
          simp only [Option.some.injEq] at hs; subst hs
          rcases findNow_rel hes hf with ⟨h1, h2⟩ | ⟨j', v1, v2, h1, _⟩
          · have happ : All2 (ER μ) (es ++ [{ key := key', val := v, born := ck }]) (es'.push { key := key', val := v', born := ck }).toList := by
              rw [Array.toList_push]
              exact hes.append (All2.cons ⟨rfl, rfl, hva⟩ All2.nil)
            obtain ⟨w', h4, h5⟩ := sim_map (P := P) (ck2 := ck + 1) hr hp hg hw happ
            refine ⟨w', ?_, by rw [get_put_fun (Hp.lt_of_get hg)]; exact h5, rfl, .put hp (Hp.lt_of_get hg)⟩
            simp only [Instr.mapUpdate, Sem.run_bind, run_underlying hu, Result.andThen_ok, getObj_map hw, checkKey_run hku hkk.1.1, findKey_run hku h2, h4]
          · cases h1
        · cases hs
      · cases hs
    · cases hs
  · cases hs

theorem mapEntryA_run {t : TypeId} {m m' key key' v : Value} {h h' : Hp} (hs : mapEntryA P t m key h = some (v, h')) (hr : Rel μ base h.get w) (hm : VR μ m m') (hk : VR μ key key') :
    ∃ v' w', (Instr.mapEntry t m' key').run P w = .ok v' w' ∧ VR μ v v' ∧ Sim μ base h.get w μ h'.get w' ∧ h'.next = h.next ∧ Keeps μ h h' := by
  unfold mapEntryA at hs
  split at hs
  · rename_i kt et b hu
    obtain ⟨p, hp, rfl⟩ := hm.inv_map
    split at hs
    · rename_i kd es ck hku hg
      split at hs
      · rename_i hkk
        simp only [Bool.and_eq_true] at hkk
        have hpk : plainV key = true := by cases key <;> simp_all [plainV, plain1]
        have := hk.eq_of_plain hpk; subst this
        obtain ⟨es', hw, hes, hb⟩ := hr.blk b p _ hp hg
        split at hs
        · rename_i j u hf
          simp only [Option.some.injEq, Prod.mk.injEq] at hs
          obtain ⟨rfl, rfl⟩ := hs
          rcases findNow_rel hes hf with ⟨h1, _⟩ | ⟨j', v1, v2, h1, h2, h3⟩
          · cases h1
          · simp at h1; obtain ⟨rfl, rfl⟩ := h1
            obtain ⟨_, e0, h6, h7, h8⟩ := findNow_some hf
            rw [Nat.sub_zero] at h6
            obtain ⟨e1, h9, h10⟩ := hes.2 j e0 h6
            -- the entry's key is written over with itself
            have hkey : e0.key = key' := (sameNow_eq h8).1.symm
            have hmod : All2 (ER μ) es (es'.modify j fun e => { e with key := key' }).toList := by
              rw [Array.toList_modify]
              refine ⟨by simp [hes.1], fun i a ha => ?_⟩
              rw [List.getElem?_modify]
              obtain ⟨y, hy, r⟩ := hes.2 i a ha
              rw [hy]
              by_cases e : j = i
              · subst e
                rw [h6] at ha; simp at ha; subst ha
                refine ⟨{ y with key := key' }, by simp, ⟨hkey.symm, r.born, r.val⟩⟩
              · exact ⟨y, by simp [e], r⟩
            obtain ⟨w', h4, h5⟩ := sim_map (P := P) (ck2 := ck) hr hp hg hw hmod
            have hself : (fun c => if c = b then some (Blk.map es ck) else h.get c) = h.get := by
              funext c
              by_cases e : c = b
              · subst e; simp [hg]
              · rw [if_neg e]
            rw [hself] at h5
            rw [Array.getElem?_toList] at h9
            refine ⟨.tuple #[v2, goInt (((es'[j]?).map (·.born)).getD 0)], w', ?_, ?_, h5, rfl, .refl μ _⟩
            · simp only [Instr.mapEntry, Sem.run_bind, run_underlying hu, Result.andThen_ok, getObj_map hw, checkKey_run hku hkk.1, findKey_run hku h2, keyStays_run hf hes, h4, Sem.run_pure]
            · have hb : VR1 μ (goInt (((es[j]?).map (·.born)).getD 0)) (goInt (((es'[j]?).map (·.born)).getD 0)) := by
                rw [h6, h9]
                simp only [Option.map_some, Option.getD_some, h10.born]
                exact .refl_plain rfl
              exact .tup (by simpa using All2.cons h3 (All2.cons (VRa.one hb) All2.nil))
        · rename_i hf
          split at hs
          · rename_i z hz
            simp only [Option.some.injEq, Prod.mk.injEq] at hs
            obtain ⟨rfl, rfl⟩ := hs
            obtain ⟨hzr, hzp⟩ := zeroA_run hz w
            have hza : VRa μ z z := .refl_plain (plainA_spec hzp).1 (plainA_spec hzp).2
            rcases findNow_rel hes hf with ⟨h1, h2⟩ | ⟨j', v1, v2, h1, _⟩
            · have happ : All2 (ER μ) (es ++ [{ key := key', val := z, born := ck }]) (es'.push { key := key', val := z, born := ck }).toList := by
                rw [Array.toList_push]
                exact hes.append (All2.cons ⟨rfl, rfl, hza⟩ All2.nil)
              obtain ⟨w', h4, h5⟩ := sim_map (P := P) (ck2 := ck + 1) hr hp hg hw happ
              refine ⟨_, w', ?_, .tup (by simpa using All2.cons hza (All2.cons (VRa.one (.refl_plain rfl)) All2.nil)), by rw [get_put_fun (Hp.lt_of_get hg)]; exact h5, rfl, .put hp (Hp.lt_of_get hg)⟩
              simp only [Instr.mapEntry, Sem.run_bind, run_underlying hu, Result.andThen_ok, getObj_map hw, checkKey_run hku hkk.1, findKey_run hku h2, hzr, h4, Sem.run_pure]
            · cases h1
          · cases hs
        · cases hs
      · cases hs
    · cases hs
  · cases hs

theorem findIdx_rel {q : MapEntry → Bool} {q' : MapEntry → Bool} : ∀ {es es' : List MapEntry}, All2 (ER μ) es es' → (∀ e e', ER μ e e' → q e = q' e') → es'.findIdx? q' = es.findIdx? q
  | [], es', h, _ => by have := h.inv_nil; subst this; rfl
  | e :: es, es', h, hq => by
    obtain ⟨e', es'', rfl, he, hr⟩ := h.inv_cons
    rw [List.findIdx?_cons, List.findIdx?_cons, hq e e' he, findIdx_rel hr hq]

theorem entryStoreA_run {t : TypeId} {m m' st st' v v' : Value} {h h' : Hp} (hs : entryStoreA m st v h = some h') (hr : Rel μ base h.get w) (hm : VR μ m m') (hst : VR μ st st') (hv : VR μ v v') :
    ∃ w', (Instr.entryStore t m' st' v').run P w = .ok () w' ∧ Sim μ base h.get w μ h'.get w' ∧ h'.next = h.next ∧ Keeps μ h h' := by
  unfold entryStoreA at hs
  split at hs
  · rename_i b k born
    obtain ⟨p, hp, rfl⟩ := hm.inv_map
    have := hst.inv_int; subst this
    split at hs
    · rename_i es ck hg hn
      split at hs
      · rename_i i hi
        simp only [Option.some.injEq] at hs; subst hs
        obtain ⟨es', hw, hes, hb⟩ := hr.blk b p _ hp hg
        have hva := hv.noTup hn
        have hmod := modify_rel hes i (f := fun e => { e with val := v }) (f' := fun e => { e with val := v' }) (fun e e' r => ⟨r.key, r.born, hva⟩)
        obtain ⟨w', h4, h5⟩ := sim_map (P := P) (ck2 := ck) hr hp hg hw hmod
        refine ⟨w', ?_, by rw [get_put_fun (Hp.lt_of_get hg)]; exact h5, rfl, .put hp (Hp.lt_of_get hg)⟩
        have hfi : es'.findIdx? (fun e => (e.born : Int) == born) = some i := by
          have h6 := findIdx_rel (q := fun e => (e.born : Int) == born) (q' := fun e => (e.born : Int) == born) hes (fun e e' r => by rw [r.born])
          rw [hi] at h6
          rw [← h6]
          cases es'; simp
        simp only [Instr.entryStore, Sem.run_bind, getObj_map hw, Result.andThen_ok, asInt, asIntOf, Sem.run_pure, hfi, h4]
      · cases hs
    · cases hs
  · cases hs

theorem deleteA_run {t : TypeId} {argTypes : Array TypeId} {ty : TypeId} {m m' key key' : Value} {args : Array Value} {h h' : Hp} (hs : deleteA P t m key h = some h') (ht : argTypes[0]? = some t)
    (hargs : args[0]? = some m') (hargs1 : args[1]? = some key') (hr : Rel μ base h.get w) (hm : VR μ m m') (hk : VR μ key key') :
    ∃ w', (Builtin.delete_ argTypes ty args).run P w = .ok (.tuple #[]) w' ∧ Sim μ base h.get w μ h'.get w' ∧ h'.next = h.next ∧ Keeps μ h h' := by
  unfold deleteA at hs
  split at hs
  · rename_i kt et hu
    split at hs
    · rename_i kd hku
      split at hs
      · rename_i hkk
        simp only [Bool.and_eq_true] at hkk
        have hpk : plainV key = true := by cases key <;> simp_all [plainV, plain1]
        have := hk.eq_of_plain hpk; subst this
        split at hs
        · simp only [Option.some.injEq] at hs; subst hs
          have := hm.eq_of_plain (v := .map none) rfl; subst this
          refine ⟨w, ?_, Sim.refl hr, rfl, .refl μ _⟩
          simp only [Builtin.delete_, ht, hargs, hargs1, Sem.run_bind, run_underlying hu, Result.andThen_ok, checkKey_run hku hkk.1, Sem.run_pure]
        · rename_i b
          obtain ⟨p, hp, rfl⟩ := hm.inv_map
          split at hs
          · rename_i es ck hg
            obtain ⟨es', hw, hes, hb⟩ := hr.blk b p _ hp hg
            split at hs
            · rename_i j u hf
              simp only [Option.some.injEq] at hs; subst hs
              rcases findNow_rel hes hf with ⟨h1, _⟩ | ⟨j', v1, v2, h1, h2, h3⟩
              · cases h1
              · simp at h1; obtain ⟨rfl, rfl⟩ := h1
                have her : All2 (ER μ) (es.eraseIdx j) (es'.eraseIdxIfInBounds j).toList := by
                  have : (es'.eraseIdxIfInBounds j).toList = es'.toList.eraseIdx j := by
                    unfold Array.eraseIdxIfInBounds
                    split
                    · simp
                    · rename_i hge; rw [List.eraseIdx_of_length_le (by simpa using hge)]
                  rw [this]
                  refine ⟨by simp [List.length_eraseIdx, hes.1], fun i a ha => ?_⟩
                  rw [List.getElem?_eraseIdx] at ha ⊢
                  split at ha
                  · rename_i hlt; rw [if_pos hlt]; exact hes.2 i a ha
                  · rename_i hlt; rw [if_neg hlt]; exact hes.2 _ a ha
                obtain ⟨w', h4, h5⟩ := sim_map (P := P) (ck2 := ck) hr hp hg hw her
                refine ⟨w', ?_, by rw [get_put_fun (Hp.lt_of_get hg)]; exact h5, rfl, .put hp (Hp.lt_of_get hg)⟩
                simp only [Builtin.delete_, ht, hargs, hargs1, Sem.run_bind, run_underlying hu, Result.andThen_ok, getObj_map hw, checkKey_run hku hkk.1, findKey_run hku h2, h4, Sem.run_pure]
            · rename_i hf
              simp only [Option.some.injEq] at hs; subst hs
              rcases findNow_rel hes hf with ⟨h1, h2⟩ | ⟨j', v1, v2, h1, _⟩
              · obtain ⟨w', h4, h5⟩ := sim_map (P := P) (ck2 := ck) hr hp hg hw hes
                have hself : (fun c => if c = b then some (Blk.map es ck) else h.get c) = h.get := by
                  funext c
                  by_cases e : c = b
                  · subst e; simp [hg]
                  · rw [if_neg e]
                rw [hself] at h5
                refine ⟨w', ?_, h5, rfl, .refl μ _⟩
                simp only [Builtin.delete_, ht, hargs, hargs1, Sem.run_bind, run_underlying hu, Result.andThen_ok, getObj_map hw, checkKey_run hku hkk.1, findKey_run hku h2, h4, Sem.run_pure]
              · cases h1
            · cases hs
          · cases hs
        · cases hs
      · cases hs
    · cases hs
  · cases hs
end
end Go.Abs
