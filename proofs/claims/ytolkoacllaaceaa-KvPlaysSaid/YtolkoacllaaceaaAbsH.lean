/-
  APPEND to slices that nobody writes to; a text's bytes as such a slice.
-/
import Derived.Test.YtolkoacllaaceaaAbsG
namespace Go.Abs
open Go

noncomputable section
variable (S : Sy)
/-- A literal slice as immutable data. -/
def symDN (P : Program) (ρ : Operand → Value) (o : Oper) : Option (Blk × (Nat → Value)) :=
  match o.op with
  | .buildSlice t len _ => match P.underlying t with
    | some (.slice e) => match zeroD P 6 e, stepN P ρ o with
      | some z, some (.cells cs _, _) => match rawElems (deepV H0 (fun _ => false) 6) z len cs with
        | some xs => if len < UNK0 then some (.cells [] true, fun _ => olit z xs) else none
        | none => none
      | _, _ => none
    | _ => none
  | _ => none
/-- What is appended to: the elements (none: there is nothing), the heap without the right to append. -/
def baseD (z s : Value) (h : Hp) : Option (Option (List Value) × Hp) :=
  match s with
  | .slice none 0 0 => some (none, h)
  | .func (.yield 5) f xs => match f.toList with
    | [z0, .slice none b 0] => if zeq 5 z0 z then
        match h.get b with
          | some (.cells [] false) => some (some xs.toList, h.put b none)
          | _ => none
      else none
    | [z0, .slice none _ 1] => if zeq 5 z0 z then some (match xs.toList with | [] => none | l => some l, h) else none
    | _ => none
  | .slice (some ⟨b, o, none⟩) n k => if k = n ∧ k < UNK0 then match h.get b with
    | some (.cells cs false) => match rawElems (deepV h (fun _ => false) 6) z n (cs.drop o) with
      | some xs => some (if n = 0 then none else some xs, h.put b (some (.cells cs true)))
      | none => none
    | _ => none
    else none
  | _ => none
/-- What is appended. -/
def srcD (P : Program) (z : Value) (xt : TypeId) (x : Value) (h : Hp) : Option (List Value) :=
  match P.underlying xt with
  | some .string => match den x, z with
    | .string s, .int .u8 0 => some (S.svals s)
    | _, _ => none
  | some (.slice _) => match asDeep x with
    | some (z0, ys) => if zeq 5 z0 z then some ys else none
    | none => match x with
      | .slice none 0 0 => some []
      | .slice (some ⟨b, o, none⟩) m _ => match h.get b with
        | some (.cells cs _) => rawElems (deepV h (fun _ => false) 6) z m (cs.drop o)
        | _ => none
      | _ => none
  | _ => none
def joinD (xs : Option (List Value)) (ys : List Value) : List Value :=
  match xs with
  | none => ys
  | some xs => S.app xs ys
def symAD (P : Program) (st xt : TypeId) (s x : Value) (h : Hp) : Option (List Alt) :=
  match P.underlying st with
  | some (.slice e) => match P.info? e, zeroA P e, zeroD P 6 e with
    | some i, some z0, some z =>
      if 0 < i.size ∧ z0.cells.size = i.size ∧ z.cells.size = i.size ∧ 0 < i.bytes then
        match baseD z s h, srcD S P z xt x h with
        | some (xs, h1), some ys => one (h1.push (.cells [] false)) (S.nle (S.nmul (S.len (joinD S xs ys)) i.bytes) 140737488355328) (osl z (joinD S xs ys) h1.next)
        | _, _ => none
      else none
    | _, _, _ => none
  | _ => none
/-- In a region whose order is told. -/
def stepG (P : Program) (ρ : Operand → Value) (o : Oper) (h : Hp) : Option (List Alt) :=
  if o.op.operands.toList.all okOperand then
    match o.op with
    | .call { callee := .builtin .append, args, argTypes } => match argTypes.toList, args.toList with
      | [st, xt], [s, x] => symAD S P st xt (ρ s) (ρ x) h
      | _, _ => none
    | .convert src dst x => match P.underlying src, P.underlying dst, den (ρ x) with
      | some .string, some (.slice e), .string s => match P.underlying e with
        | some (.int .u8) => pure1 h (dsl (.int .u8 0) (S.svals s))
        | _ => none
      | _, _, _ => none
    | _ => none
  else none
end

/-- A step behind which a block may be one that is only read. -/
structure SimW (μ : Mu) (base : Nat) (g : Gm) (w : World) (μ' : Mu) (g' : Gm) (w' : World) : Prop where
  le : Mu.le μ μ'
  rel : Rel μ' base g' w'
  fr : Fr μ g w w'
  own : ∀ b p x, μ' b = some p → g' b = some x → w.heap.size ≤ p.c ∨ ∃ b0 p0 x0, μ b0 = some p0 ∧ g b0 = some x0 ∧ (ownB x = true → ownB x0 = true) ∧ p0.c = p.c
  fz : ∀ c i a, μ'.z c i = some a → μ.z c i = some a ∨ w.heap.size ≤ c ∨ ∃ b0 p0 x0, μ b0 = some p0 ∧ g b0 = some x0 ∧ ownB x0 = true ∧ p0.c = c
theorem Sim.toW {μ μ' : Mu} {base : Nat} {g g' : Gm} {w w' : World} (h : Sim μ base g w μ' g' w') : SimW μ base g w μ' g' w' := by
  refine ⟨h.le, h.rel, h.fr, fun b p x hb hx => ?_, h.fz⟩
  rcases h.own b p x hb hx with h1 | ⟨b0, p0, x0, h1, h2, h3, h4⟩
  · exact .inl h1
  · exact .inr ⟨b0, p0, x0, h1, h2, h3, h4⟩
theorem SimW.trans {μ μ1 μ2 : Mu} {base : Nat} {g g1 g2 : Gm} {w w1 w2 : World} (h : SimW μ base g w μ1 g1 w1) (k : SimW μ1 base g1 w1 μ2 g2 w2) : SimW μ base g w μ2 g2 w2 := by
  refine ⟨Mu.le_trans h.le k.le, k.rel, ⟨k.fr.os.trans h.fr.os, k.fr.tape.trans h.fr.tape, k.fr.output.trans h.fr.output, Nat.le_trans h.fr.size k.fr.size, fun c hc hn => ?_⟩, fun b p x hb hg => ?_, fun c i a hc => ?_⟩
  · rw [k.fr.block c (Nat.lt_of_lt_of_le hc h.fr.size) ?_, h.fr.block c hc hn]
    intro b p x hb hg ho e
    rcases h.own b p x hb hg with h1 | ⟨b0, p0, x0, h1, h2, h3, h4⟩
    · omega
    · exact hn b0 p0 x0 h1 h2 (h3 ho) (h4.trans e)
  · rcases k.own b p x hb hg with h1 | ⟨b0, p0, x0, h1, h2, h3, h4⟩
    · exact .inl (Nat.le_trans h.fr.size h1)
    · rcases h.own b0 p0 x0 h1 h2 with h5 | ⟨b1, p1, x1, h5, h6, h7, h8⟩
      · exact .inl (by omega)
      · exact .inr ⟨b1, p1, x1, h5, h6, fun h => h7 (h3 h), h8.trans h4⟩
  · rcases k.fz c i a hc with h1 | h1 | ⟨b0, p0, x0, h1, h2, ho, h3⟩
    · exact h.fz c i a h1
    · exact .inr (.inl (Nat.le_trans h.fr.size h1))
    · rcases h.own b0 p0 x0 h1 h2 with h5 | ⟨b1, p1, x1, h5, h6, h7, h8⟩
      · exact .inr (.inl (by omega))
      · exact .inr (.inr ⟨b1, p1, x1, h5, h6, h7 ho, h8.trans h3⟩)

/-- What of a result, where blocks may be frozen. -/
structure OutG (μ : Mu) (base : Nat) (h : Hp) (w : World) (v : Value) (h' : Hp) (v' : Value) (w' : World) (μ' : Mu) : Prop where
  val : VR μ' v v'
  sim : SimW μ base h.get w μ' h'.get w'
  next : h.next ≤ h'.next
  dom : ∀ b, μ' b ≠ μ b → h.next ≤ b ∧ b < h'.next
theorem OutG.out {μ : Mu} {base : Nat} {h : Hp} {w : World} {v : Value} {h' : Hp} {v' : Value} {w' : World} {μ' : Mu} (o : OutG μ base h w v h' v' w' μ') (hk : Keeps μ h h') : Out μ base h w v h' v' w' μ' :=
  ⟨o.val, ⟨o.sim.le, o.sim.rel, o.sim.fr, o.sim.own, o.sim.fz⟩, o.next, o.dom, hk⟩

section
variable {P : Program} {μ : Mu} {base : Nat} {w : World}

open Classical in
/-- More cells frozen: of one block, from a place to another one. -/
noncomputable def zAdd (z : Nat → Nat → Option Value) (c lo hi : Nat) (arr : Array Value) : Nat → Nat → Option Value := fun d i =>
  if d = c ∧ lo ≤ i ∧ i < hi then arr[i]? else z d i
noncomputable def muZ (μ : Mu) (c lo hi : Nat) (arr : Array Value) : Mu := ⟨μ.f, zAdd μ.z c lo hi arr⟩
theorem muZ_le {g : Gm} {c lo hi : Nat} {arr : Array Value} {e : TypeId} {fr : Nat × Nat} (hr : Rel μ base g w) (hc : w.heap[c]? = some (.cells arr e fr)) : Mu.le μ (muZ μ c lo hi arr) := by
  refine ⟨fun _ _ h => h, fun d i a h => ?_⟩
  show zAdd μ.z c lo hi arr d i = some a
  unfold zAdd
  split
  · rename_i hcnd
    obtain ⟨rfl, _⟩ := hcnd
    obtain ⟨arr', e', fr', h1, h2⟩ := (hr.frz d i a h).1
    rw [hc] at h1
    simp only [Option.some.injEq, Obj.cells.injEq] at h1
    obtain ⟨rfl, _⟩ := h1
    exact h2
  · exact h
theorem muZ_rel {g : Gm} {c lo hi : Nat} {arr : Array Value} {e : TypeId} {fr : Nat × Nat} (hr : Rel μ base g w) (hc : w.heap[c]? = some (.cells arr e fr))
    (hown : ∀ b p x, μ b = some p → g b = some x → ownB x = true → p.c = c → hi ≤ p.s) : Rel (muZ μ c lo hi arr) base g w := by
  refine ⟨hr.size, fun b p x hb hx => (hr.blk b p x hb hx).keep (muZ_le hr hc) rfl, hr.inj, fun d i a hd => ?_⟩
  have hd' : zAdd μ.z c lo hi arr d i = some a := hd
  unfold zAdd at hd'
  by_cases hcnd : d = c ∧ lo ≤ i ∧ i < hi
  · rw [if_pos hcnd] at hd'
    obtain ⟨rfl, h1, h2⟩ := hcnd
    exact ⟨⟨arr, e, fr, hc, hd'⟩, fun b p x hb hx ho hcc => Nat.lt_of_lt_of_le h2 (hown b p x hb hx ho hcc)⟩
  · rw [if_neg hcnd] at hd'
    exact hr.frz d i a hd'
theorem muZ_sim {μ1 : Mu} {g g1 : Gm} {w1 : World} {c lo hi : Nat} {arr : Array Value} {e : TypeId} {fr : Nat × Nat} (h : SimW μ base g w μ1 g1 w1) (hc : w1.heap[c]? = some (.cells arr e fr))
    (hown : ∀ b p x, μ1 b = some p → g1 b = some x → ownB x = true → p.c = c → hi ≤ p.s) (hold : w.heap.size ≤ c ∨ ∃ b0 p0 x0, μ b0 = some p0 ∧ g b0 = some x0 ∧ ownB x0 = true ∧ p0.c = c) : SimW μ base g w (muZ μ1 c lo hi arr) g1 w1 := by
  refine ⟨Mu.le_trans h.le (muZ_le h.rel hc), muZ_rel h.rel hc hown, h.fr, fun b p x hb hx => h.own b p x hb hx, fun d i a hd => ?_⟩
  have hd : zAdd μ1.z c lo hi arr d i = some a := hd
  unfold zAdd at hd
  split at hd
  · rename_i hcnd
    obtain ⟨rfl, _⟩ := hcnd
    exact .inr hold
  · exact h.fz d i a hd

/-- What a base is like. -/
structure BaseOk (μ : Mu) (base : Nat) (w : World) (z : Value) (xs : List Value) (h h1 : Hp) (s' : Value) (μ1 : Mu) (bs : Option Addr) (k : Nat) : Prop where
  eq : s' = .slice bs xs.length k
  len : xs.length ≤ k
  f : ∀ b, μ1 b = μ b
  sim : SimW μ base h.get w μ1 h1.get w
  next : h1.next = h.next
  dr : DR μ1.z (dsl z xs) s'
  room : k = xs.length ∨ ∃ b p c o, bs = some ⟨c, o, none⟩ ∧ μ b = some p ∧ h.get b = some (.cells [] false) ∧ h1 = h.put b none ∧ μ1 = μ ∧ p.c = c ∧ p.s = o + xs.length * z.cells.size ∧ o + k * z.cells.size ≤ p.N

theorem elems_ok {z : Value} {h : Hp} (hr : Rel μ base h.get w) {m : Nat} {cs xs : List Value} (hd : rawElems (deepV h (fun _ => false) 6) z m cs = some xs) :
    xs.length = m ∧ (flatN z xs).length ≤ cs.length ∧ ∀ (i : Nat) y u v', (flatN z xs)[i]? = some y → cs[i]? = some u → VR1 μ u v' → DR μ.z y v' := by
  have hz : zf μ h.get w (fun _ => False) = μ.z := by
    funext c i
    unfold zf
    rw [if_neg (by rintro ⟨_, _, _, h, _⟩; exact h)]
  exact rawElems_ok (fz := μ.z) (fun {z v v' xs} hd hv => hz ▸ deepV_ok (S := fun _ => False) (ok := fun _ => false) (fun b hb => by cases hb) hr 6 hd hv) hd

theorem baseD_ok {z s s' : Value} {h h1 : Hp} {xo : Option (List Value)} (hb : baseD z s h = some (xo, h1)) (hr : Rel μ base h.get w) (hs : VR μ s s') (hz : 0 < z.cells.size) : ∃ μ1 bs k, BaseOk μ base w z (xo.getD []) h h1 s' μ1 bs k := by
  unfold baseD at hb
  split at hb
  · simp only [Option.some.injEq, Prod.mk.injEq] at hb
    obtain ⟨rfl, rfl⟩ := hb
    have := hs.eq_of_plain (v := .slice none 0 0) rfl; subst this
    exact ⟨μ, none, 0, rfl, Nat.le_refl _, fun _ => rfl, (Sim.refl hr).toW, rfl, .nil, .inl rfl⟩
  · rename_i f ys
    have key : ∀ {z0 : Value} {b q : Nat}, zeq 5 z0 z = true → f.toList = [z0, .slice none b q] → z0 = z ∧ ∃ n k a, s' = .slice a n k ∧ DR μ.z (dsl z ys.toList) s' ∧ ys.toList.length = n ∧ (k = n ∨ q = 0 ∧ ∃ p c o, a = some ⟨c, o, none⟩ ∧ μ b = some p ∧ p.c = c ∧ p.s = o + n * z.cells.size ∧ o + k * z.cells.size ≤ p.N) := by
      intro z0 b q hze hf
      have := zeq_eq hze; subst this
      have hf : f = #[z0, .slice none b q] := by rw [← Array.toList_inj, hf]
      subst hf
      have h0 := hs.zero_of_basic rfl
      refine ⟨rfl, ?_⟩
      generalize hg : Value.func (Fn.yield 5) #[z0, .slice none b q] ys = d at h0
      cases h0 with
      | osl hd h1 h2 => simp [Abs.osq] at hg; obtain ⟨⟨rfl, rfl, rfl⟩, h3⟩ := hg; subst h3; exact ⟨_, _, _, rfl, by simpa using hd, by simpa using h1, h2⟩
      | plain hp => subst hg; simp [plain1] at hp
      | mark _ _ => simp [mk] at hg
      | deep _ => simp [dsl] at hg
      | fptr _ _ _ => simp [Abs.fptr] at hg
      | rptr _ => simp [Abs.rptr] at hg
      | mbool => simp [mkb] at hg
      | _ => cases hg
    have hnk : ∀ {k : Nat} {a : Option Addr}, DR μ.z (dsl z ys.toList) (.slice a ys.toList.length k) → ys.toList.length ≤ k := by
      intro k a hd
      rcases hd.inv with ⟨hx, a', k', he⟩ | ⟨c, o, k', val, he, hk, _⟩
      · rw [hx]; exact Nat.zero_le _
      · simp at he; omega
    split at hb
    · rename_i z0 b hf
      split at hb
      case isFalse => cases hb
      rename_i hze
      obtain ⟨rfl, n, k, a, rfl, hd, rfl, hroom⟩ := key hze hf
      split at hb
      case h_2 => cases hb
      rename_i hget
      simp only [Option.some.injEq, Prod.mk.injEq] at hb
      obtain ⟨rfl, rfl⟩ := hb
      have hbn := Hp.lt_of_get hget
      refine ⟨μ, a, k, rfl, hnk hd, fun _ => rfl, ?_, rfl, hd, hroom.imp id fun ⟨_, p, c, o, h2, h3, h4, h5, h6⟩ => ⟨b, p, c, o, h2, h3, hget, rfl, rfl, h4, h5, h6⟩⟩
      refine (Sim.less (Sim.refl hr) fun c p x _ hx => ?_).toW
      rw [Hp.get_put _ _ _ _ hbn] at hx
      split at hx
      · cases hx
      · exact hx
    · rename_i z0 b hf
      split at hb
      case isFalse => cases hb
      rename_i hze
      obtain ⟨rfl, n, k, a, rfl, hd, rfl, hroom⟩ := key hze hf
      simp only [Option.some.injEq, Prod.mk.injEq] at hb
      obtain ⟨rfl, rfl⟩ := hb
      have hk : k = ys.toList.length := by
        rcases hroom with hk | ⟨h0, _⟩
        · exact hk
        · cases h0
      have hxo : (match ys.toList with | [] => none | l => some l : Option (List Value)).getD [] = ys.toList := by
        cases ys.toList <;> rfl
      rw [hxo]
      exact ⟨μ, a, k, rfl, hnk hd, fun _ => rfl, (Sim.refl hr).toW, rfl, hd, .inl hk⟩
    · cases hb
  · rename_i b o n k
    split at hb
    case isFalse => cases hb
    rename_i hc
    obtain ⟨rfl, hku⟩ := hc
    split at hb
    case h_2 => cases hb
    rename_i cs hget
    split at hb
    case h_2 => cases hb
    rename_i xs hxs
    simp only [Option.some.injEq, Prod.mk.injEq] at hb
    obtain ⟨rfl, rfl⟩ := hb
    obtain ⟨h2, h3, h4⟩ := elems_ok hr hxs
    have hxo : (if k = 0 then (none : Option (List Value)) else some xs).getD [] = xs := by
      split
      · rename_i h0; rw [h0] at h2; rw [List.eq_nil_of_length_eq_zero h2]; rfl
      · rfl
    rw [hxo]
    have hbn := Hp.lt_of_get hget
    have hroB : ∀ c, (h.put b (some (.cells cs true))).get c = gF h.get (fun c => c = b) c := by
      intro c
      rw [Hp.get_put _ _ _ _ hbn]
      unfold gF
      by_cases e : c = b
      · subst e; simp [hget, roB]
      · simp [e]
    have hfun : (h.put b (some (.cells cs true))).get = gF h.get (fun c => c = b) := funext hroB
    have hsim : SimW μ base h.get w (muF μ h.get w fun c => c = b) (h.put b (some (.cells cs true))).get w := by
      rw [hfun]
      refine ⟨muF_le hr _, freeze_rel hr _, Fr.refl _ _ _, fun c p x hp hx => ?_, fun c i a h => freeze_sim _ c i a h⟩
      unfold gF at hx
      split at hx
      · cases e : h.get c with
        | none => rw [e] at hx; cases hx
        | some x0 =>
          rw [e] at hx
          simp only [Option.map_some, Option.some.injEq] at hx; subst hx
          exact .inr ⟨c, p, x0, hp, e, fun h => (own_ro h).1, rfl⟩
      · exact .inr ⟨c, p, x, hp, hx, id, rfl⟩
    rcases hs.inv_slice with ⟨p, k', hp, rfl, hlk, hk⟩ | ⟨rfl, hk, a', ⟨p, hp⟩, rfl⟩
    · have hkk : k' = k := by
        rcases hk with ⟨h5, _⟩ | ⟨h5, _⟩
        · omega
        · exact h5.symm
      subst hkk
      obtain ⟨arr, e, fr, h5, h6, h7, h8⟩ := hr.blk b p _ hp hget
      have cell : ∀ (i : Nat) y, (flatN z xs)[i]? = some y → ∃ u v', cs[o + i]? = some u ∧ arr[p.s + (o + i)]? = some v' ∧ VR1 μ u v' := by
        intro i y hy
        have hi := (List.getElem?_eq_some_iff.1 hy).1
        rw [List.length_drop] at h3
        have hu := List.getElem?_eq_getElem (l := cs) (i := o + i) (by omega)
        obtain ⟨v', h9, h10⟩ := h7 _ _ hu
        exact ⟨_, v', hu, h9, h10⟩
      refine ⟨muF μ h.get w (fun c => c = b), _, _, by rw [h2], by omega, fun _ => rfl, hsim, rfl, ?_, .inl h2.symm⟩
      refine .sl (fun i => arr.getD (p.s + (o + i)) (.bool false)) h2 (by omega) (fun i y hy => ?_) (fun i y hy => ?_)
      · obtain ⟨u, v', hu, ha, hv⟩ := cell i y hy
        show zf μ h.get w _ _ _ = _
        unfold zf
        rw [if_pos ⟨b, p, _, rfl, hp, hget, ⟨rfl, rfl⟩, rfl, by omega⟩, h5]
        show arr[o + p.s + i]? = _
        rw [Array.getD_eq_getD_getElem?, ha, show o + p.s + i = p.s + (o + i) from by omega, ha]; rfl
      · obtain ⟨u, v', hu, ha, hv⟩ := cell i y hy
        rw [Array.getD_eq_getD_getElem?, ha]
        exact (h4 i y u v' hy (by rw [List.getElem?_drop]; exact hu) hv).mono (muF_le hr _).z
    · have : xs = [] := List.eq_nil_of_length_eq_zero h2
      subst this
      exact ⟨muF μ h.get w (fun c => c = b), _, _, rfl, Nat.le_refl _, fun _ => rfl, hsim, rfl, .nil, .inl rfl⟩
  · cases hb

theorem view_one {v v' : Value} {fz : Nat → Nat → Option Value} (h : DR fz v v') : v'.oneCell' = true := by
  cases h with
  | plain hp => cases v <;> simp_all [plain1, Value.oneCell']
  | _ => rfl
theorem flat_svals (s : ByteArray) (k : Int) : flatN (.int .u8 k) (std.svals s) = std.svals s := by
  show flatN _ (s.data.toList.map fun b => Value.int .u8 b.toNat) = s.data.toList.map fun b => Value.int .u8 b.toNat
  induction s.data.toList with
  | nil => rfl
  | cons b l ih => rw [List.map_cons, flatN_cons, ih]; rfl

/-- What a source is like. -/
theorem srcD_ok {z zz x x' : Value} {xt e : TypeId} {h : Hp} {ys : List Value} (hs : srcD std P z xt x h = some ys) (hr : Rel μ base h.get w) (hx : VR μ x x') :
    ∃ news : Array Value, Src P w e z.cells.size zz xt x' ys.length news ∧ news.size = ys.length * z.cells.size ∧ ∀ (i : Nat) y, (flatN z ys)[i]? = some y → ∃ v', news[i]? = some v' ∧ DR μ.z y v' := by
  unfold srcD at hs
  split at hs
  · rename_i hu
    split at hs
    case h_2 => cases hs
    rename_i s hd
    simp only [Option.some.injEq] at hs; subst hs
    have hx := hx.den
    rw [hd] at hx
    have := hx.inv_string; subst this
    have hfc : ∀ w0 : World, (Builtin.firstCells 1 s.data.toList.length (.string s)).run P w0 = .ok (s.data.map fun b => Value.int .u8 b.toNat) w0 := by
      intro w0
      have hex : s.extract 0 s.data.toList.length = s := by
        apply ByteArray.ext
        rw [ByteArray.data_extract]
        simp
      simp only [Builtin.firstCells, hex]
      rfl
    have hl : (std.svals s).length = s.data.toList.length := List.length_map ..
    refine ⟨s.data.map fun b => Value.int .u8 b.toNat, ⟨.inr ⟨.inl hu, fun _ => by rw [hl]; rfl, by rw [hl]; exact hfc w, by rw [hl]; exact hfc _⟩⟩, ?_, fun i y hy => ?_⟩
    · rw [hl]; simp [Value.cells]
    · rw [flat_svals] at hy
      have hy : (s.data.toList.map fun b => Value.int .u8 b.toNat)[i]? = some y := hy
      refine ⟨y, ?_, ?_⟩
      · rw [← Array.getElem?_toList, Array.toList_map]; exact hy
      · rw [List.getElem?_map] at hy
        cases hb : s.data.toList[i]? with
        | none => rw [hb] at hy; cases hy
        | some b => rw [hb] at hy; simp at hy; subst hy; exact .plain rfl
  · rename_i t hu
    have fin : ∀ {a : Option Addr} {k : Nat}, x' = .slice a ys.length k → ys.length ≤ k → (∀ c o, a = some ⟨c, o, none⟩ → 0 < ys.length → ∃ val : Nat → Value, (∀ i v, (flatN z ys)[i]? = some v → w.cell? ⟨c, o + i, none⟩ = some (val i)) ∧ ∀ i v, (flatN z ys)[i]? = some v → DR μ.z v (val i)) → (0 < ys.length → ∃ c o, a = some ⟨c, o, none⟩) →
        ∃ news : Array Value, Src P w e z.cells.size zz xt x' ys.length news ∧ news.size = ys.length * z.cells.size ∧ ∀ (i : Nat) y, (flatN z ys)[i]? = some y → ∃ v', news[i]? = some v' ∧ DR μ.z y v' := by
      intro a k he hk hval ha
      by_cases h0 : ys.length = 0
      · have : ys = [] := List.eq_nil_of_length_eq_zero h0
        subst this
        refine ⟨#[], ⟨.inr ⟨.inr ⟨t, hu⟩, fun _ => by rw [he]; rfl, ?_, ?_⟩⟩, by simp, fun i y hy => by simp [flatN] at hy⟩
        · rw [he]; cases a with
          | none => exact run_firstCells_none w _ _ _ _
          | some a => exact run_firstCells_some w _ 0 a 0 k [] (by simp) (by simp)
        · rw [he]; cases a with
          | none => exact run_firstCells_none _ _ _ _ _
          | some a => exact run_firstCells_some w.drew _ 0 a 0 k [] (by simp) (by simp)
      · obtain ⟨c, o, rfl⟩ := ha (by omega)
        obtain ⟨val, h1, h2⟩ := hval c o rfl (by omega)
        have hcell : ∀ j v, ((List.range (ys.length * z.cells.size)).map val)[j]? = some v → w.cell? ((⟨c, o, none⟩ : Addr).add j) = some v := by
          intro j v hv
          rw [List.getElem?_map] at hv
          cases hri : (List.range (ys.length * z.cells.size))[j]? with
          | none => rw [hri] at hv; cases hv
          | some j' =>
            obtain ⟨hlt, he'⟩ := List.getElem?_eq_some_iff.1 hri
            simp at he' hlt
            subst he'
            rw [hri] at hv
            simp only [Option.map_some, Option.some.injEq] at hv
            subst hv
            have := h1 j _ (List.getElem?_eq_getElem (by rw [flatN_len]; exact hlt))
            rw [← this]
            congr 1
            unfold Addr.add; split
            · simp_all
            · rfl
        refine ⟨((List.range (ys.length * z.cells.size)).map val).toArray, ⟨.inr ⟨.inr ⟨t, hu⟩, fun _ => by rw [he]; rfl, ?_, ?_⟩⟩, by simp, fun i y hy => ?_⟩
        · rw [he]; exact run_firstCells_some w _ _ _ _ k _ (by simp) hcell
        · rw [he]; exact run_firstCells_some w.drew _ _ _ _ k _ (by simp) (by simpa using hcell)
        · have hlt := (List.getElem?_eq_some_iff.1 hy).1
          rw [flatN_len] at hlt
          exact ⟨val i, by simp [hlt], h2 i y hy⟩
    have deepCase : DR μ.z (dsl z ys) x' → ∃ news : Array Value, Src P w e z.cells.size zz xt x' ys.length news ∧ news.size = ys.length * z.cells.size ∧ ∀ (i : Nat) y, (flatN z ys)[i]? = some y → ∃ v', news[i]? = some v' ∧ DR μ.z y v' := by
      intro hd
      rcases hd.inv with ⟨rfl, a, k, he⟩ | ⟨c, o, k, val, he, hk, h1, h2⟩
      · exact fin he (Nat.zero_le _) (fun _ _ _ h => absurd h (by simp)) (fun h => absurd h (by simp))
      · refine fin he hk (fun c' o' hco _ => ?_) (fun _ => ⟨c, o, rfl⟩)
        simp only [Option.some.injEq, Addr.mk.injEq, and_true] at hco
        obtain ⟨rfl, rfl⟩ := hco
        exact ⟨val, fun i v hv => frozen_cell hr (h1 i v hv), h2⟩
    split at hs
    · rename_i z0 ys' hd
      split at hs
      case isFalse => cases hs
      rename_i hze
      simp only [Option.some.injEq] at hs; subst hs
      have := zeq_eq hze; subst this
      exact deepCase (deep_inv hd hx)
    · split at hs
      · simp only [Option.some.injEq] at hs; subst hs
        rw [hx.eq_of_plain rfl] at deepCase ⊢
        exact deepCase .nil
      · rename_i b o m k _
        split at hs
        case h_2 => cases hs
        rename_i cs ro hget
        obtain ⟨h2, h3, h4⟩ := elems_ok hr hs
        rcases hx.inv_slice with ⟨p, k', hp, rfl, hlk, hk⟩ | ⟨rfl, hk, a', ⟨p, hp⟩, rfl⟩
        · obtain ⟨arr, e, fr, h5, h6, h7, h8⟩ := hr.blk b p _ hp hget
          refine fin (by rw [h2]) (by omega) (fun c' o' hco _ => ?_) (fun _ => ⟨_, _, rfl⟩)
          simp only [Option.some.injEq, Addr.mk.injEq, and_true] at hco
          obtain ⟨rfl, rfl⟩ := hco
          have cell : ∀ (i : Nat) y, (flatN z ys)[i]? = some y → ∃ u v', cs[o + i]? = some u ∧ arr[p.s + (o + i)]? = some v' ∧ VR1 μ u v' := by
            intro i y hy
            have hi := (List.getElem?_eq_some_iff.1 hy).1
            rw [List.length_drop] at h3
            have hu := List.getElem?_eq_getElem (l := cs) (i := o + i) (by omega)
            obtain ⟨v', h9, h10⟩ := h7 _ _ hu
            exact ⟨_, v', hu, h9, h10⟩
          refine ⟨fun i => arr.getD (p.s + (o + i)) (.bool false), fun i y hy => ?_, fun i y hy => ?_⟩
          · obtain ⟨u, v', hu, ha, hv⟩ := cell i y hy
            show w.cell? _ = some (arr.getD (p.s + (o + i)) (.bool false))
            rw [cell_of_row w p.c _ arr e fr h5, Array.getD_eq_getD_getElem?, ha, show o + p.s + i = p.s + (o + i) from by omega, ha]; rfl
          · obtain ⟨u, v', hu, ha, hv⟩ := cell i y hy
            show DR μ.z y (arr.getD (p.s + (o + i)) (.bool false))
            rw [Array.getD_eq_getD_getElem?, ha]
            exact h4 i y u v' hy (by rw [List.getElem?_drop]; exact hu) hv
        · have : ys = [] := List.eq_nil_of_length_eq_zero h2
          subst this
          exact deepCase .nil
      · cases hs
  · cases hs

/-- APPEND. -/
theorem appendD_run {argTypes : Array TypeId} {ty st xt e : TypeId} {args : Array Value} {i : TypeInfo} {z0 z s' x' : Value} {xs ys : List Value} {h h1 : Hp} {news : Array Value} {μ1 : Mu} {bs : Option Addr} {k : Nat}
    (h0 : argTypes[0]? = some st) (h1' : argTypes[1]? = some xt) (ha0 : args[0]? = some s') (ha1 : args[1]? = some x') (hu : P.underlying st = some (.slice e)) (hi : P.info? e = some i) (hiz : i.zero = some z0)
    (hsz : 0 < i.size) (hz0 : z0.cells.size = i.size) (hz : z.cells.size = i.size) (hby : 0 < i.bytes) (hr : Rel μ base h.get w) (hfree : μ h.next = none) (hb : BaseOk μ base w z xs h h1 s' μ1 bs k)
    (src : Src P w e i.size z0 xt x' ys.length news) (hns : news.size = ys.length * i.size) (hnews : ∀ (i : Nat) y, (flatN z ys)[i]? = some y → ∃ v', news[i]? = some v' ∧ DR μ.z y v')
    (hob : (xs ++ ys).length * i.bytes ≤ 140737488355328) :
    ∃ v' w' μ', (Builtin.append_ argTypes ty args).run P w = .ok v' w' ∧ OutG μ base h w (osl z (xs ++ ys) h1.next) (h1.push (.cells [] false)) v' w' μ' := by
  obtain ⟨heq, hlen, hf, hsim, hnx, hdr, hroom⟩ := hb
  subst heq
  rw [List.length_append] at hob
  have hmb : ys.length * i.bytes ≤ 140737488355328 := Nat.le_trans (Nat.mul_le_mul_right _ (Nat.le_add_left _ _)) hob
  have h62 : xs.length + ys.length ≤ 4611686018427387904 := by
    have := Nat.le_mul_of_pos_right (xs.length + ys.length) hby
    omega
  have hμ1 : μ1 h1.next = none := by rw [hf, hnx]; exact hfree
  have hgp : (h1.push (.cells [] false)).get = fun c => if c = h1.next then some (.cells [] false) else h1.get c := get_push_fun _ _
  have hflat : ∀ {j : Nat} {v : Value}, (flatN z (xs ++ ys))[j]? = some v → (j < xs.length * i.size ∧ (flatN z xs)[j]? = some v) ∨ (xs.length * i.size ≤ j ∧ j < (xs.length + ys.length) * i.size ∧ (flatN z ys)[j - xs.length * i.size]? = some v) := by
    intro j v hv
    have hlt := (List.getElem?_eq_some_iff.1 hv).1
    rw [flatN_len, List.length_append, hz] at hlt
    rw [flatN_append, List.getElem?_append, flatN_len, hz] at hv
    split at hv
    · rename_i hj; exact .inl ⟨hj, hv⟩
    · rename_i hj; exact .inr ⟨by omega, hlt, hv⟩
  -- what was there
  have hold : ∃ (ov : Nat → Value), (0 < xs.length → ∃ c o, bs = some ⟨c, o, none⟩ ∧ (∀ j v, (flatN z xs)[j]? = some v → μ1.z c (o + j) = some (ov j))) ∧ ∀ j v, (flatN z xs)[j]? = some v → DR μ1.z v (ov j) := by
    rcases hdr.inv with ⟨hx, a, k', he⟩ | ⟨c, o, k', val, he, hk, h2, h3⟩
    · exact ⟨fun _ => .bool false, fun h => (by rw [hx] at h; simp at h), fun j v hv => by rw [hx] at hv; simp [flatN] at hv⟩
    · simp only [Value.slice.injEq, true_and] at he
      obtain ⟨rfl, rfl⟩ := he
      exact ⟨val, fun _ => ⟨c, o, rfl, h2⟩, h3⟩
  obtain ⟨ov, hov1, hov2⟩ := hold
  by_cases hm : ys.length = 0
  · -- nothing is appended
    have : ys = [] := List.eq_nil_of_length_eq_zero hm
    subst this
    have hnil : news.toList = [] := by
      apply List.eq_nil_of_length_eq_zero
      rw [Array.length_toList, hns]; simp
    obtain ⟨hrun, _⟩ := append_run (ty := ty) h0 h1' ha0 ha1 hu hi hiz hz0 hsz hmb src
    have hrun := hrun (by simpa using hlen)
    have hres : (Builtin.append_ argTypes ty args).run P w = .ok (.slice bs xs.length k) w := by
      rw [hrun]; unfold apRoom
      cases bs with
      | none => rfl
      | some a => rw [hnil]; rfl
    rw [List.append_nil]
    rcases hroom with hk | ⟨b, p, c, o, rfl, hp, hg, rfl, hμe, hpc, hps, hpN⟩
    · refine ⟨_, w, μ1, hres, .zero (.osl hdr rfl (.inl hk)), ⟨hsim.le, ?_, hsim.fr, fun c p x hc hx => ?_, hsim.fz⟩, by simp [hnx], fun b hb => absurd (hf b) hb⟩
      · refine Rel.less hsim.rel fun c p x hc hx => ?_
        rw [hgp] at hx
        simp only at hx
        split at hx
        · rename_i e; subst e; rw [hμ1] at hc; cases hc
        · exact hx
      · rw [hgp] at hx
        simp only at hx
        split at hx
        · rename_i e; subst e; rw [hμ1] at hc; cases hc
        · exact hsim.own c p x hc hx
    · have hμe := hμe.symm
      subst hμe
      obtain ⟨arr, et, fr, hw1, hw2, hw3, hw4⟩ := hr.blk b p _ hp hg
      have hch : Chg w w p.c (.cells arr et fr) := ⟨rfl, rfl, rfl, rfl, fun _ _ => rfl, hw1⟩
      have hbn := Hp.lt_of_get hg
      have hmv := sim_move (q := p) (x' := .cells [] false) hr hp hg rfl (hfree) rfl hch ⟨arr, et, fr, hw1, hw2, fun i v hv => by simp at hv, hw4⟩ rfl (Nat.le_refl _) (fun arr e fr h => ⟨arr, e, fr, h, fun _ _ => rfl⟩)
      refine ⟨_, w, Mu.upd μ h.next p, hres, .zero (.osl hdr rfl (.inr ⟨rfl, p, c, o, rfl, Mu.upd_same _ _ _, hpc, hps, hpN⟩)), ?_, by simp, dom_upd (by simp)⟩
      rw [hgp]
      have hfun : (fun c => if c = (h.put b none).next then some (Blk.cells [] false) else (h.put b none).get c) = (fun c => if c = h.next then some (Blk.cells [] false) else if c = b then none else h.get c) := by
        funext c; rw [Hp.get_put _ _ _ _ hbn]; rfl
      rw [hfun]
      exact hmv.toW
  · by_cases hcap : xs.length + ys.length ≤ k
    · -- in the room that there is
      rcases hroom with hk | ⟨b, p, c, o, rfl, hp, hg, rfl, hμe, hpc, hps, hpN⟩
      · omega
      have hμe := hμe.symm
      subst hμe
      subst hpc
      obtain ⟨hrun, _⟩ := append_run (ty := ty) h0 h1' ha0 ha1 hu hi hiz hz0 hsz hmb src
      have hrun := hrun hcap
      obtain ⟨arr, et, fr, hw1, hw2, hw3, hw4⟩ := hr.blk b p _ hp hg
      obtain ⟨hpb, hpf, hps0⟩ := hw4 rfl
      rw [hz] at hps hpN
      have hmul : (xs.length + ys.length) * i.size ≤ k * i.size := Nat.mul_le_mul_right _ hcap
      rw [Nat.add_mul] at hmul
      have hin : ∀ j, j < news.toList.length → p.s + j < arr.size := by
        intro j hj
        rw [Array.length_toList, hns] at hj
        omega
      have hone : ∀ v ∈ news.toList, v.oneCell' = true := by
        intro v hv
        obtain ⟨j, hj⟩ := List.mem_iff_getElem?.1 hv
        have hlt := (List.getElem?_eq_some_iff.1 hj).1
        rw [Array.length_toList, hns] at hlt
        obtain ⟨y, hy⟩ : ∃ y, (flatN z ys)[j]? = some y := ⟨_, List.getElem?_eq_getElem (by rw [flatN_len, hz]; exact hlt)⟩
        obtain ⟨v', h2, h3⟩ := hnews j y hy
        rw [Array.getElem?_toList, h2] at hj
        simp only [Option.some.injEq] at hj; subst hj
        exact (view_one h3)
      have hst := run_storeCells_cells (P := P) p.c p.s news.toList 0 w (fun j hj => by
          rw [Nat.add_zero, cell_of_row w p.c _ arr et fr hw1, Array.getElem?_eq_getElem (hin j hj)]; rfl)
        (fun j hj => by
          simp only [World.frozen?, hw1, Nat.add_zero]
          have := hpf _ (hin j hj)
          simpa using this) hone
      rw [Nat.add_zero] at hst
      have hch := chg_setCells p.c et fr news.toList p.s w arr hw1
      have hadd : (⟨p.c, o, none⟩ : Addr).add (xs.length * i.size) = ⟨p.c, p.s, none⟩ := by
        unfold Addr.add; split
        · rename_i h0; rw [hps, h0]; rfl
        · rw [hps]
      have hres : (Builtin.append_ argTypes ty args).run P w = .ok (.slice (some ⟨p.c, o, none⟩) (xs.length + ys.length) k) (w.setCells p.c p.s news.toList) := by
        rw [hrun]; unfold apRoom
        simp only [hadd, hst, Result.andThen_ok]
      have hbn := Hp.lt_of_get hg
      have hmv := sim_move (q := ⟨p.c, p.s + ys.length * i.size, p.N⟩) (x' := .cells [] false) hr hp hg rfl (hfree) rfl hch
        ⟨_, et, fr, hch.at_, by simp [length_splice]; exact hw2, fun i v hv => by simp at hv, fun _ => ⟨hpb, by simpa [length_splice] using hpf, fun h => by simp at h⟩⟩ rfl (Nat.le_add_right _ _) (pre_splice hw1 hch.at_ (Nat.le_refl _))
      have hg' : ((h.put b none).push (.cells [] false)).get = (fun c => if c = h.next then some (Blk.cells [] false) else if c = b then none else h.get c) := by
        rw [hgp]; funext c; rw [Hp.get_put _ _ _ _ hbn]; rfl
      have hz2 := muZ_sim (lo := p.s) (hi := p.s + ys.length * i.size) hmv.toW hch.at_ (fun b' p' x' hb' hx' ho' hcc => by
        by_cases e : b' = h.next
        · subst e; rw [Mu.upd_same] at hb'; simp only [Option.some.injEq] at hb'; subst hb'; exact Nat.le_refl _
        · rw [Mu.upd_other e] at hb'
          rw [if_neg e] at hx'
          split at hx'
          · cases hx'
          · rename_i e2
            exact absurd hcc (hr.inj b' b p' p x' _ hb' hp hx' hg e2 ho')) (.inr ⟨b, p, _, hp, hg, rfl, rfl⟩)
      refine ⟨_, _, muZ (Mu.upd μ h.next ⟨p.c, p.s + ys.length * i.size, p.N⟩) p.c p.s (p.s + ys.length * i.size) (spliceL arr.toList p.s news.toList).toArray, hres, ?_, by rw [hg']; exact hz2, by simp, fun b' hb' => dom_upd (h := h) (h' := (h.put b none).push (.cells [] false)) (p := ⟨p.c, p.s + ys.length * i.size, p.N⟩) (by simp) b' hb'⟩
      have hlow : ∀ {j : Nat}, j < ys.length * i.size → (spliceL arr.toList p.s news.toList).toArray[p.s + j]? = news[j]? := by
        intro j hj
        rw [List.getElem?_toArray, splice_get _ _ _ (by rw [Array.length_toList, Array.length_toList, hns]; omega), if_pos (by rw [Array.length_toList, hns]; omega), Nat.add_sub_cancel_left, Array.getElem?_toList]
      refine .zero (.osl (n := xs.length + ys.length) ?_ (List.length_append) (.inr ⟨rfl, ⟨p.c, p.s + ys.length * i.size, p.N⟩, p.c, o, rfl, ?_, rfl, ?_, by rw [hz]; exact hpN⟩))
      · refine .sl (fun j => if j < xs.length * i.size then ov j else news.getD (j - xs.length * i.size) (.bool false)) (List.length_append) hcap (fun j v hv => ?_) (fun j v hv => ?_)
        · show zAdd _ _ _ _ _ _ _ = _
          rcases hflat hv with ⟨hj, hv⟩ | ⟨hj, hj2, hv⟩
          · rw [if_pos hj]
            have hx0 : 0 < xs.length := by
              rcases Nat.eq_zero_or_pos xs.length with h0 | h0
              · rw [h0] at hj; omega
              · exact h0
            obtain ⟨c', o', hco, h2⟩ := hov1 hx0
            simp only [Option.some.injEq, Addr.mk.injEq, and_true] at hco
            obtain ⟨rfl, rfl⟩ := hco
            exact hz2.le.z _ _ _ (h2 j v hv)
          · rw [if_neg (by omega)]
            obtain ⟨v', h3, h4⟩ := hnews _ v hv
            unfold zAdd
            rw [Nat.add_mul] at hj2
            rw [if_pos ⟨rfl, by omega, by omega⟩, show o + j = p.s + (j - xs.length * i.size) from by omega, hlow (by omega), h3, Array.getD_eq_getD_getElem?, h3]; rfl
        · rcases hflat hv with ⟨hj, hv⟩ | ⟨hj, hj2, hv⟩
          · simp only [if_pos hj]
            exact (hov2 j v hv).mono hz2.le.z
          · simp only [if_neg (show ¬ j < xs.length * i.size by omega)]
            obtain ⟨v', h3, h4⟩ := hnews _ v hv
            rw [Array.getD_eq_getD_getElem?, h3]
            exact h4.mono hz2.le.z
      · exact Mu.upd_same μ h.next _
      · show p.s + ys.length * i.size = o + (xs.length + ys.length) * z.cells.size
        rw [hz, hps, Nat.add_mul]; omega
    · -- a new row
      have hcap : k < xs.length + ys.length := by omega
      have holds : ∃ olds : Array Value, (Builtin.firstCells i.size xs.length (.slice bs xs.length k)).run P w.drew = .ok olds w.drew ∧ olds.size = xs.length * i.size ∧ ∀ j v, (flatN z xs)[j]? = some v → olds[j]? = some (ov j) := by
        by_cases hx0 : xs.length = 0
        · refine ⟨#[], ?_, by simp [hx0], fun j v hv => ?_⟩
          · rw [hx0]
            cases bs with
            | none => exact run_firstCells_none _ _ _ _ _
            | some a => exact run_firstCells_some w.drew _ 0 a 0 k [] (by simp) (by simp)
          · have : xs = [] := List.eq_nil_of_length_eq_zero hx0
            rw [this] at hv; simp [flatN] at hv
        · obtain ⟨c, o, rfl, h2⟩ := hov1 (by omega)
          refine ⟨((List.range (xs.length * i.size)).map ov).toArray, run_firstCells_some w.drew _ _ _ _ k _ (by simp) (fun j v hv => ?_), by simp, fun j v hv => ?_⟩
          · rw [List.getElem?_map] at hv
            cases hri : (List.range (xs.length * i.size))[j]? with
            | none => rw [hri] at hv; cases hv
            | some j' =>
              obtain ⟨hlt, he'⟩ := List.getElem?_eq_some_iff.1 hri
              simp at he' hlt
              subst he'
              rw [hri] at hv
              simp only [Option.map_some, Option.some.injEq] at hv
              subst hv
              have h3 := frozen_cell hsim.rel (h2 j _ (List.getElem?_eq_getElem (by rw [flatN_len, hz]; exact hlt)))
              have h4 : w.drew.cell? ⟨c, o + j, none⟩ = some (ov j) := by simpa using h3
              rw [← h4]
              congr 1
              unfold Addr.add; split
              · simp_all
              · rfl
          · have hlt := (List.getElem?_eq_some_iff.1 hv).1
            rw [flatN_len, hz] at hlt
            simp [hlt]
      obtain ⟨olds, hfo, hos, hol⟩ := holds
      obtain ⟨_, hrun⟩ := append_run (ty := ty) h0 h1' ha0 ha1 hu hi hiz hz0 hsz hmb src
      have hrun := hrun hcap h62 hob olds hfo
      have hgr := grow_drew_alloc w (.cells (olds ++ news ++ Builtin.zeroCells z0.cells (grownCap w (xs.length + ys.length) k e - (xs.length + ys.length))) e)
      have hge := grownCap_ge w (xs.length + ys.length) k e
      have hns2 : (olds ++ news ++ Builtin.zeroCells z0.cells (grownCap w (xs.length + ys.length) k e - (xs.length + ys.length))).size = grownCap w (xs.length + ys.length) k e * i.size := by
        rw [Array.size_append, Array.size_append, hos, hns, size_zeroC, hz0, ← Nat.add_mul, ← Nat.add_mul]
        congr 1; omega
      generalize hcp : grownCap w (xs.length + ys.length) k e = cp at hge hns2 hgr hrun
      generalize harr : olds ++ news ++ Builtin.zeroCells z0.cells (cp - (xs.length + ys.length)) = arr at hns2 hgr
      have hnew := sim_new (x := .cells [] false) (p := ⟨w.heap.size, (xs.length + ys.length) * i.size, arr.size⟩) hsim.rel hgr hμ1 rfl
        ⟨arr, e, (0, 0), hgr.new, rfl, fun i v hv => by simp at hv, fun _ => ⟨hsim.rel.size, fun i _ => by simp, fun h => by simp at h⟩⟩
      have htr := hsim.trans hnew.toW
      have hz2 := muZ_sim (lo := 0) (hi := (xs.length + ys.length) * i.size) htr hgr.new (fun b' p' x' hb' hx' ho' hcc => by
        by_cases e : b' = h1.next
        · subst e; rw [Mu.upd_same] at hb'; simp only [Option.some.injEq] at hb'; subst hb'; exact Nat.le_refl _
        · rw [Mu.upd_other e] at hb'
          rw [if_neg e] at hx'
          have := (hsim.rel.blk b' p' x' hb' hx').lt
          omega) (.inl (Nat.le_refl _))
      have hres : (Builtin.append_ argTypes ty args).run P w = .ok (.slice (some ⟨w.heap.size, 0, none⟩) (xs.length + ys.length) cp) (w.drew.alloc (.cells arr e)) := by
        rw [hrun]; unfold apGrow; rw [hcp, harr]
      refine ⟨_, _, muZ (Mu.upd μ1 h1.next ⟨w.heap.size, (xs.length + ys.length) * i.size, arr.size⟩) w.heap.size 0 ((xs.length + ys.length) * i.size) arr, hres, ?_, by rw [hgp]; exact hz2, by simp [hnx], fun b' hb' => ?_⟩
      · have hat : ∀ {j : Nat} {v : Value}, (flatN z (xs ++ ys))[j]? = some v → j < (xs.length + ys.length) * i.size ∧ ∃ v', arr[j]? = some v' ∧ DR (muZ (Mu.upd μ1 h1.next ⟨w.heap.size, (xs.length + ys.length) * i.size, arr.size⟩) w.heap.size 0 ((xs.length + ys.length) * i.size) arr).z v v' := by
          intro j v hv
          have hlt := (List.getElem?_eq_some_iff.1 hv).1
          rw [flatN_len, List.length_append, hz] at hlt
          refine ⟨hlt, ?_⟩
          rcases hflat hv with ⟨hj, hv⟩ | ⟨hj, hj2, hv⟩
          · refine ⟨ov j, ?_, (hov2 j v hv).mono ((Mu.le_trans (Mu.le_upd hμ1) (muZ_le hnew.rel hgr.new)).z)⟩
            rw [← harr, Array.append_assoc, Array.getElem?_append_left (by rw [hos]; exact hj)]
            exact hol j v hv
          · obtain ⟨v', h3, h4⟩ := hnews _ v hv
            refine ⟨v', ?_, h4.mono hz2.le.z⟩
            rw [← harr, Array.append_assoc, Array.getElem?_append_right (by rw [hos]; exact hj), hos, Array.getElem?_append_left (by rw [hns]; rw [Nat.add_mul] at hj2; omega)]
            exact h3
        refine .zero (.osl (n := xs.length + ys.length) ?_ (List.length_append) (.inr ⟨rfl, ⟨w.heap.size, (xs.length + ys.length) * i.size, arr.size⟩, w.heap.size, 0, rfl, ?_, rfl, ?_, ?_⟩))
        · refine .sl (fun j => arr.getD j (.bool false)) (List.length_append) hge (fun j v hv => ?_) (fun j v hv => ?_)
          · obtain ⟨hlt, v', h3, _⟩ := hat hv
            show zAdd _ _ _ _ _ _ _ = _
            unfold zAdd
            rw [if_pos ⟨rfl, Nat.zero_le _, by omega⟩, Nat.zero_add, h3, Array.getD_eq_getD_getElem?, h3]; rfl
          · obtain ⟨hlt, v', h3, h4⟩ := hat hv
            rw [Array.getD_eq_getD_getElem?, h3]
            exact h4
        · exact Mu.upd_same μ1 h1.next _
        · show (xs.length + ys.length) * i.size = 0 + (xs.length + ys.length) * z.cells.size
          rw [hz, Nat.zero_add]
        · show 0 + cp * z.cells.size ≤ arr.size
          rw [hz, hns2, Nat.zero_add]; exact Nat.le_refl _
      · have hb' : Mu.upd μ1 h1.next ⟨w.heap.size, (xs.length + ys.length) * i.size, arr.size⟩ b' ≠ μ b' := hb'
        rw [← hf b'] at hb'
        have := dom_upd (h := h1) (h' := h1.push (.cells [] false)) (by simp) b' hb'
        rw [hnx] at this; exact this

theorem joinD_eq (xs : Option (List Value)) (ys : List Value) : joinD std xs ys = xs.getD [] ++ ys := by cases xs <;> rfl

/-- EACH OPERATION OF THESE. -/
theorem baseD_next {z s : Value} {h h1 : Hp} {xo : Option (List Value)} (hb : baseD z s h = some (xo, h1)) : h1.next = h.next := by
  unfold baseD at hb
  repeat' split at hb
  all_goals first
    | (cases hb; done)
    | (simp only [Option.some.injEq, Prod.mk.injEq] at hb; obtain ⟨_, rfl⟩ := hb; rfl)
theorem baseD_keep {z s s' : Value} {h h1 : Hp} {xo : Option (List Value)} {x : Blk} (hb : baseD z s h = some (xo, h1)) (hs : VR μ s s') : Keeps μ h (h1.push x) := by
  have hn := baseD_next hb
  intro c hc hμ
  rw [Hp.get_push, if_neg (by omega)]
  unfold baseD at hb
  split at hb
  · simp only [Option.some.injEq, Prod.mk.injEq] at hb
    obtain ⟨_, rfl⟩ := hb
    exact .inl rfl
  · split at hb
    · rename_i b _
      split at hb
      case isFalse => cases hb
      split at hb
      case h_2 => cases hb
      rename_i hget
      simp only [Option.some.injEq, Prod.mk.injEq] at hb
      obtain ⟨_, rfl⟩ := hb
      rw [Hp.get_put _ _ _ _ (Hp.lt_of_get hget)]
      split
      · exact .inr rfl
      · exact .inl rfl
    · split at hb
      case isFalse => cases hb
      simp only [Option.some.injEq, Prod.mk.injEq] at hb
      obtain ⟨_, rfl⟩ := hb
      exact .inl rfl
    · cases hb
  · rename_i b o n k
    split at hb
    case isFalse => cases hb
    split at hb
    case h_2 => cases hb
    rename_i cs hget
    split at hb
    case h_2 => cases hb
    simp only [Option.some.injEq, Prod.mk.injEq] at hb
    obtain ⟨_, rfl⟩ := hb
    have hp : ∃ p, μ b = some p := by
      rcases hs.inv_slice with ⟨p, _, hp, _⟩ | ⟨_, _, _, hp, _⟩
      · exact ⟨p, hp⟩
      · exact hp
    obtain ⟨p, hp⟩ := hp
    exact Keeps.put hp (Hp.lt_of_get hget) c hc hμ
  · cases hb
theorem stepG_ok {o : Oper} {s : St} {alts : List Alt} (e : stepG std P (evA s.tmps) o s.h = some alts) : AltsOk alts fun a => s.h.next ≤ a.h.next ∧ SemE P o s a.v a.h := by
  unfold stepG at e
  split at e
  case isFalse => cases e
  split at e
  · rename_i args argTypes ho
    split at e
    case h_2 => cases e
    rename_i st xt sx xx ht ha
    unfold symAD at e
    split at e
    case h_2 => cases e
    rename_i el hu
    split at e
    case h_2 => cases e
    rename_i i z0 z hi hz0 hzd
    split at e
    case isFalse => cases e
    rename_i hc
    split at e
    case h_2 => cases e
    rename_i xo h1 ys hb hsrc
    refine alts_one e fun hob => ⟨?_, ?_⟩
    · show s.h.next ≤ (h1.push (.cells [] false)).next
      simp [baseD_next hb]
    · intro μ base w a K Q hr hrel hfree hK
      have hsv := hr sx (by rw [ho]; simp [Op.operands, Call.operands, ha])
      have hxv := hr xx (by rw [ho]; simp [Op.operands, Call.operands, ha])
      obtain ⟨c1, c2, c3, c4⟩ := hc
      obtain ⟨μ1, bs, k, hbo⟩ := baseD_ok hb hrel hsv (by omega)
      obtain ⟨news, hsr, hns, hnews⟩ := srcD_ok (zz := z0) (e := el) hsrc hrel hxv
      rw [c3] at hsr hns
      have hiz : i.zero = some z0 := by
        unfold zeroA at hz0
        simp only [hi] at hz0
        split at hz0
        · rename_i z1 hz1
          split at hz0
          · simp at hz0; subst hz0; exact hz1
          · cases hz0
        · cases hz0
      have hob : (joinD std xo ys).length * i.bytes ≤ 140737488355328 := hob
      rw [joinD_eq] at hob
      have hargs : (args.map a.eval).toList = [a.eval sx, a.eval xx] := by rw [Array.toList_map, ha]; rfl
      have h0 : argTypes[0]? = some st := by rw [← Array.getElem?_toList, ht]; rfl
      have h1' : argTypes[1]? = some xt := by rw [← Array.getElem?_toList, ht]; rfl
      have ha0 : (args.map a.eval)[0]? = some (a.eval sx) := by rw [← Array.getElem?_toList, hargs]; rfl
      have ha1 : (args.map a.eval)[1]? = some (a.eval xx) := by rw [← Array.getElem?_toList, hargs]; rfl
      obtain ⟨v', w', μ', hrun, hout⟩ := appendD_run (ty := o.type) h0 h1' ha0 ha1 hu hi hiz c1 c2 c3 c4 hrel (hfree _ (Nat.le_refl _) (by simp [baseD_next hb])) hbo hsr hns hnews hob
      rw [← joinD_eq] at hout
      unfold Oper.wp
      have hex : (execOp a.eval o).run P w = .ok (.value v') w' := by
        obtain ⟨dst, op, ty, pos, after, guard⟩ := o
        simp only at ho; subst ho
        simp only [execOp, resolve, invoke, builtin, Sem.run_bind, Sem.run_pure, Result.andThen_ok, hrun]
      rw [hex]
      exact hK v' w' μ' (hout.out (baseD_keep hb hsv))
  · rename_i src dst x ho
    split at e
    case h_2 => cases e
    rename_i el str hs hd hx
    split at e
    case h_2 => cases e
    rename_i he
    refine alts_pure e ⟨Nat.le_refl _, ?_⟩
    intro μ base w a K Q hr hrel hfree hK
    have hxv := (hr x (by rw [ho]; simp [Op.operands])).den
    rw [hx] at hxv
    have hxv := hxv.inv_string
    have hrun := Lib.run_convert_string_bytes (P := P) w src dst el str hs hd he
    have hgr := grow_bytes w el str
    have hge := grownCap_ge w str.size 0 el
    -- the new block stands for none
    have hsim : SimW μ base s.h.get w μ s.h.get (Lib.bytesWorld w el str) := by
      refine ⟨Mu.le_refl μ, ⟨Nat.le_trans hrel.size (by rw [hgr.size]; omega), fun b p y hb hy => (hrel.blk b p y hb hy).keep (Mu.le_refl μ) (hgr.old _ (hrel.blk b p y hb hy).lt), hrel.inj, fun c i v hc => ⟨?_, (hrel.frz c i v hc).2⟩⟩,
        ⟨hgr.os, hgr.tape, hgr.output, by rw [hgr.size]; omega, fun c hc _ => hgr.old c hc⟩, fun b p y hb hy => .inr ⟨b, p, y, hb, hy, id, rfl⟩, fun _ _ _ h => .inl h⟩
      obtain ⟨arr, e, fr, h1, h2⟩ := (hrel.frz c i v hc).1
      exact ⟨arr, e, fr, (hgr.old c (Array.getElem?_eq_some_iff.1 h1).1).trans h1, h2⟩
    have hz2 := muZ_sim (lo := 0) (hi := str.size) hsim hgr.new (fun b p y hb hy _ hcc => by
      have := (hrel.blk b p y hb hy).lt; omega) (.inl (Nat.le_refl _))
    have hsz : (std.svals str).length = str.size := List.length_map ..
    unfold Oper.wp
    have hex : (execOp a.eval o).run P w = .ok (.value (.slice (some ⟨w.heap.size, 0, none⟩) str.size (grownCap w str.size 0 el))) (Lib.bytesWorld w el str) := by
      obtain ⟨dst', op, ty, pos, after, guard⟩ := o
      simp only at ho; subst ho
      simp only [execOp, Sem.run_bind, hxv, hrun, Result.andThen_ok, Sem.run_pure]
    rw [hex]
    refine hK _ _ (muZ μ w.heap.size 0 str.size (Lib.bytesCells w el str)) (OutG.out ⟨.zero (.deep ?_), hz2, Nat.le_refl _, fun b hb => absurd rfl hb⟩ (.refl _ _))
    refine .sl (fun j => (std.svals str).getD j (.bool false)) hsz hge (fun j v hv => ?_) (fun j v hv => ?_)
    · rw [flat_svals] at hv
      have hlt := (List.getElem?_eq_some_iff.1 hv).1
      rw [hsz] at hlt
      show zAdd _ _ _ _ _ _ _ = _
      unfold zAdd
      rw [if_pos ⟨rfl, Nat.zero_le _, by omega⟩, Nat.zero_add, List.getD_eq_getElem?_getD, hv]
      have hv : (str.data.toList.map fun b => Value.int .u8 b.toNat)[j]? = some v := hv
      rw [List.getElem?_map, Array.getElem?_toList] at hv
      unfold Lib.bytesCells
      rw [Array.getElem?_append, if_pos (by simpa using hlt), Array.getElem?_map]
      exact hv
    · rw [flat_svals] at hv
      rw [List.getD_eq_getElem?_getD, hv]
      have hv : (str.data.toList.map fun b => Value.int .u8 b.toNat)[j]? = some v := hv
      rw [List.getElem?_map] at hv
      cases hb : str.data.toList[j]? with
      | none => rw [hb] at hv; cases hv
      | some b => rw [hb] at hv; simp at hv; subst hv; exact .plain rfl
  · cases e

theorem symDN_ok {ρ : Operand → Value} {o : Oper} {x : Blk} {f : Nat → Value} (e : symDN P ρ o = some (x, f)) : kindOf P o.op = .N ∧ SemN P ρ o x f := by
  unfold symDN at e
  split at e
  case h_2 => cases e
  rename_i t len parts ho
  split at e
  case h_2 => cases e
  rename_i el hu
  split at e
  case h_2 => cases e
  rename_i z cs ro f0 hz hst
  split at e
  case h_2 => cases e
  rename_i xs hxs
  split at e
  case isFalse => cases e
  rename_i hlu
  simp only [Option.some.injEq, Prod.mk.injEq] at e
  obtain ⟨rfl, rfl⟩ := e
  have hk : kindOf P o.op = .N := by rw [ho]; rfl
  have hf0 : ro = false ∧ f0 = fun b => .slice (some ⟨b, 0, none⟩) len len := by
    unfold stepN at hst
    rw [ho] at hst
    simp only [hu] at hst
    repeat' split at hst
    all_goals first
      | (cases hst; done)
      | (simp only [Option.some.injEq, Prod.mk.injEq, Blk.cells.injEq] at hst; obtain ⟨⟨_, rfl⟩, rfl⟩ := hst; exact ⟨rfl, rfl⟩)
  obtain ⟨rfl, rfl⟩ := hf0
  refine ⟨hk, fun {μ base w ρ' g} hr hrel {b} hb => ?_⟩
  obtain ⟨v', w', p, h1, h2, h3⟩ := simN hk hst hr hrel hb
  have hgb : (fun c => if c = b then some (Blk.cells cs false) else g c) b = some (.cells cs false) := by simp
  have hub : (Mu.upd μ b p) b = some p := Mu.upd_same _ _ _
  obtain ⟨arr, et, fr, a1, a2, a3, a4⟩ := h3.rel.blk b p _ hub hgb
  -- it is a new block
  have hnew : w.heap.size ≤ p.c := by
    rcases h3.own b p _ hub hgb with h | ⟨b0, p0, x0, k1, k2, k3, k4⟩
    · exact h
    · exfalso
      have hne : b ≠ b0 := fun e => by subst e; rw [hb] at k1; cases k1
      refine h3.rel.inj b b0 p p0 _ x0 hub (by rw [Mu.upd_other (fun e : b0 = b => hne e.symm)]; exact k1) hgb (by simp only [if_neg (fun e : b0 = b => hne e.symm)]; exact k2) hne rfl k4.symm
  have hD : ∀ {z v v' xs}, deepV H0 (fun _ => false) 6 z v = some xs → VR1 (Mu.upd μ b p) v v' → DR μ.z (dsl z xs) v' := by
    intro z v v' xs hd hv
    have hr0 : Rel (Mu.upd μ b p) base H0.get w' := by
      have hn : ∀ c, H0.get c = none := fun c => by unfold Hp.get H0; simp
      exact h3.rel.less fun c q y _ hy => by rw [hn] at hy; cases hy
    have := deepV_ok (S := fun _ => False) (ok := fun _ => false) (fun b hb => by cases hb) hr0 6 hd hv
    have hz : zf (Mu.upd μ b p) H0.get w' (fun _ => False) = μ.z := by
      funext c i
      unfold zf
      rw [if_neg (by rintro ⟨_, _, _, h, _⟩; exact h)]; rfl
    rwa [hz] at this
  obtain ⟨e1, e2, e3⟩ := rawElems_ok (fz := μ.z) (fun {z v v' xs} => hD) hxs
  have hle : ∀ c i a, μ.z c i = some a → zAdd μ.z p.c p.s (p.s + cs.length) arr c i = some a := fun c i a h => (muZ_le h3.rel a1).z c i a h
  refine ⟨v', w', p, zAdd μ.z p.c p.s (p.s + cs.length) arr, h1, ?_, ?_⟩
  · rcases h2.inv_slice with ⟨p', k', hp', rfl, hlk, hcap⟩ | ⟨rfl, _, a', _, rfl⟩
    · rw [hub] at hp'
      simp only [Option.some.injEq] at hp'; subst hp'
      have hkk : k' = len := by
        rcases hcap with ⟨h5, h6⟩ | ⟨h5, _⟩
        · omega
        · exact h5.symm
      subst hkk
      refine .zero (.osl ?_ e1 (.inl rfl))
      have cell : ∀ (i : Nat) y, (flatN z xs)[i]? = some y → ∃ u v', i < cs.length ∧ cs[i]? = some u ∧ arr[p.s + i]? = some v' ∧ VR1 (Mu.upd μ b p) u v' := by
        intro i y hy
        have hi := (List.getElem?_eq_some_iff.1 hy).1
        have hu := List.getElem?_eq_getElem (l := cs) (i := i) (by omega)
        obtain ⟨v', h9, h10⟩ := a3 _ _ hu
        exact ⟨_, v', by omega, hu, h9, h10⟩
      refine .sl (fun i => arr.getD (p.s + i) (.bool false)) e1 (Nat.le_refl _) (fun i y hy => ?_) (fun i y hy => ?_)
      · obtain ⟨u, v', hi, hu, ha, hv⟩ := cell i y hy
        show zAdd _ _ _ _ _ _ _ = _
        unfold zAdd
        rw [if_pos ⟨rfl, by omega, by omega⟩, show 0 + p.s + i = p.s + i from by omega, ha, Array.getD_eq_getD_getElem?, ha]; rfl
      · obtain ⟨u, v', hi, hu, ha, hv⟩ := cell i y hy
        rw [Array.getD_eq_getD_getElem?, ha]
        exact (e3 i y u v' hy hu hv).mono hle
    · have : xs = [] := List.eq_nil_of_length_eq_zero e1
      subst this
      exact .zero (.osl .nil rfl (.inl rfl))
  · -- the block is one that nobody looks at
    refine ⟨⟨fun c q hc => ?_, hle⟩, ⟨h3.rel.size, fun c q y hc hy => ?_, fun c c' q q' y y' hc hc' hy hy' hne ho' => ?_, fun c i a hc => ⟨?_, fun c' q y hc' hy ho' hcc => ?_⟩⟩, h3.fr, fun c q y hc hy => ?_, fun c i a hc => ?_⟩
    · exact h3.le.f c q hc
    · by_cases e : c = b
      · subst e
        simp only [if_true, Option.some.injEq] at hy; subst hy
        have hc : (Mu.upd μ c p) c = some q := hc
        rw [hub] at hc
        simp only [Option.some.injEq] at hc; subst hc
        exact ⟨arr, et, fr, a1, a2, fun i v hv => by simp at hv, fun h => by cases h⟩
      · simp only [if_neg e] at hy
        exact (h3.rel.blk c q y hc (by simp only [if_neg e]; exact hy)).keep ⟨fun _ _ h => h, hle⟩ rfl
    · have e : c ≠ b := fun e => by subst e; simp only [if_true, Option.some.injEq] at hy; subst hy; cases ho'
      simp only [if_neg e] at hy
      by_cases e' : c' = b
      · subst e'
        exact h3.rel.inj c c' q q' y _ hc hc' (by simp only [if_neg e]; exact hy) hgb hne ho'
      · simp only [if_neg e'] at hy'
        exact h3.rel.inj c c' q q' y y' hc hc' (by simp only [if_neg e]; exact hy) (by simp only [if_neg e']; exact hy') hne ho'
    · have hc : zAdd μ.z p.c p.s (p.s + cs.length) arr c i = some a := hc
      unfold zAdd at hc
      split at hc
      · rename_i hcnd
        rw [hcnd.1]
        exact ⟨arr, et, fr, a1, hc⟩
      · exact (h3.rel.frz c i a hc).1
    · have e : c' ≠ b := fun e => by subst e; simp only [if_true, Option.some.injEq] at hy; subst hy; cases ho'
      simp only [if_neg e] at hy
      have hy' : (fun c => if c = b then some (Blk.cells cs false) else g c) c' = some y := by simp only [if_neg e]; exact hy
      have hc : zAdd μ.z p.c p.s (p.s + cs.length) arr c i = some a := hc
      unfold zAdd at hc
      split at hc
      · rename_i hcnd
        exact absurd (hcc.trans hcnd.1) (h3.rel.inj c' b q p y _ hc' hub hy' hgb e ho')
      · exact (h3.rel.frz c i a hc).2 c' q y hc' hy' ho' hcc
    · by_cases e : c = b
      · subst e
        have hc : (Mu.upd μ c p) c = some q := hc
        rw [hub] at hc
        simp only [Option.some.injEq] at hc; subst hc
        exact .inl hnew
      · simp only [if_neg e] at hy
        exact h3.own c q y hc (by simp only [if_neg e]; exact hy)
    · have hc : zAdd μ.z p.c p.s (p.s + cs.length) arr c i = some a := hc
      unfold zAdd at hc
      split at hc
      · rename_i hcnd
        rw [hcnd.1]
        exact .inr (.inl hnew)
      · exact .inl hc
end
end Go.Abs
