/-
  MAPS WHOSE ENTRIES ARE NOT KNOWN: keys and values as raw data.
-/
import Derived.Test.YtddejgkfgnokgaaFw3
import Derived.Test.YtddejgkfgnokgaaFw2
import Derived.Test.YtddejgkfgnokgaaRows
import Derived.ProofKit
import Derived.WalkKit
import Derived.Test.YtddejgkfgnokgaaFw1
section
namespace Go.Abs
open Go

noncomputable section
/-- A slice that is immutable data already. -/
def deep0 (z v : Value) : Option (List Value) :=
  match v with
  | .func (.yield 1) f xs => match f.toList with
    | [z0] => if zeq 5 z0 z then some xs.toList else none
    | _ => none
  | _ => none
/-- A value as raw data, of a zero's kind. -/
def rawV (deep : Value → Value → Option (List Value)) (z v : Value) : Option Value :=
  match z with
  | .agg zs => match v with
    | .agg cs => match rawCells deep zs.toList cs.toList with
      | some (xs, []) => some (.agg xs.toArray)
      | _ => none
    | _ => none
  | z => rawCell deep z v
def rawVs (deep : Value → Value → Option (List Value)) : List Value → List Value → Option (List Value)
  | [], [] => some []
  | z :: zs, v :: vs => match rawV deep z v, rawVs deep zs vs with
    | some x, some xs => some (x :: xs)
    | _, _ => none
  | _, _ => none
variable (S : Sy)
/-- A key as raw data. -/
def keyV (kz v : Value) : Option Value :=
  match kz, den v with
  | .string _, .string s => some (.string s)
  | .int k _, .int k' n => if k = k' then some (.int k n) else none
  | _, _ => none
def viewE (z x : Value) : Value :=
  match z with
  | .agg zs => .agg (viewC S (.agg zs) x).toArray
  | z => view1 S z x
/-- A key type's zero. -/
def keyT (P : Program) (kt : TypeId) (kz : Value) : Bool :=
  match P.underlying kt, kz with
  | some .string, .string _ => true
  | some (.int k), .int k' _ => decide (k = k')
  | _, _ => false
def smapAt (v : Value) (h : Hp) : Option (Nat × Value × Value × List (Value × Value)) :=
  match v with
  | .map (some b) => match h.get b with
    | some (.smap kz vz es) => some (b, kz, vz, es)
    | _ => none
  | _ => none
/-- A type's zero as raw data. -/
def zeroOk (vz z0 : Value) : Bool :=
  match rawV (deepV H0 (fun _ => false) 6) vz z0 with
  | some u => zeq 6 u vz
  | none => false
def symMR (P : Program) (ρ : Operand → Value) (o : Oper) (h : Hp) : Option (List Alt) :=
  match o.op with
  | .lookup t m k ok => match P.underlying t, smapAt (ρ m) h with
    | some (.map kt et), some (_, kz, vz, es) => match keyV kz (ρ k), zeroA P et with
      | some key, some z0 => if keyT P kt kz && zeroOk vz z0 then
          pure1 h (if ok then .tuple #[viewE S vz (S.mget kz vz es key), mkb (S.mhas kz es key)] else viewE S vz (S.mget kz vz es key))
        else none
      | _, _ => none
    | _, _ => none
  | .call { callee := .builtin .len, args, argTypes } => match argTypes[0]? with
    | some t => match P.underlying t, args.toList.map ρ with
      | some (.map _ _), [m] => match smapAt m h with
        | some (_, _, _, es) => pure1 h (mk (.int .i64 (S.int (S.len es))))
        | none => none
      | _, _ => none
    | none => none
  | _ => none
def symMU (P : Program) (ρ : Operand → Value) (t : TypeId) (m k x : Operand) (h : Hp) : Option (List Alt) :=
  match P.underlying t, smapAt (ρ m) h with
  | some (.map kt _), some (b, kz, vz, es) => match keyV kz (ρ k), rawV (deepV h (fun _ => false) 6) vz (ρ x) with
    | some key, some u => if keyT P kt kz then pure1 (h.put b (some (.smap kz vz (S.mput kz es key u)))) undef else none
    | _, _ => none
  | _, _ => none
def symME (P : Program) (ρ : Operand → Value) (o : Oper) (h : Hp) : Option (List Alt) :=
  match o.op with
  | .mapUpdate t m k x => symMU S P ρ t m k x h
  | .insert t m k x => symMU S P ρ t m k x h
  | .call { callee := .builtin .delete, args, argTypes } => match argTypes[0]?, args.toList.map ρ with
    | some t, [m, k] => match P.underlying t, smapAt m h with
      | some (.map kt _), some (b, kz, vz, es) => match keyV kz k with
        | some key => if keyT P kt kz then pure1 (h.put b (some (.smap kz vz (S.mdel kz es key)))) undef else none
        | none => none
      | _, _ => none
    | _, _ => none
  | _ => none
end

section
variable {P : Program} {μ : Mu} {base : Nat} {w : World}

theorem rawCell_noAgg {deep : Value → Value → Option (List Value)} {z c x : Value} (h : rawCell deep z c = some x) : isAggV x = false := by
  have := norm_raw h
  cases x with
  | agg xs =>
    exfalso
    unfold norm1 at this
    split at this <;> first | (cases this; done) | skip
    split at this
    · rename_i hp; rw [this] at hp; simp [plain1] at hp
    · cases this
  | _ => rfl
theorem rawV_ok {fz : Nat → Nat → Option Value} {deep : Value → Value → Option (List Value)} (hd : ∀ {z v v' xs}, deep z v = some xs → VR1 μ v v' → DR fz (dsl z xs) v') (h1 : ∀ {z v xs}, deep z v = some xs → v.oneCell' = true) {z v x v' : Value} (h : rawV deep z v = some x) (hv : VR μ v v') : DRa fz x v' := by
  unfold rawV at h
  split at h
  · rename_i zs
    split at h
    · rename_i cs
      split at h
      · rename_i xs hxs
        simp only [Option.some.injEq] at h; subst h
        obtain ⟨ys, rfl, hys⟩ := hv.inv_agg
        obtain ⟨used, hu, h2, h3, h4, h5⟩ := rawCells_ok hd hxs
        rw [List.append_nil] at hu
        refine .inr ⟨_, _, rfl, rfl, ⟨by rw [← h2, ← hu, hys.1], fun i a ha => ?_⟩⟩
        have ha : xs[i]? = some a := by simpa using ha
        have hlt := (List.getElem?_eq_some_iff.1 ha).1
        have hc := List.getElem?_eq_getElem (l := used) (i := i) (by omega)
        obtain ⟨b, hb, r⟩ := hys.2 i _ (by rw [hu]; exact hc)
        exact ⟨b, hb, h5 i a _ b ha hc r⟩
      · cases h
    · cases h
  · refine .inl ⟨rawCell_noAgg h, ?_⟩
    have hone : v.oneCell' = true := by
      unfold rawCell at h
      split at h
      · split at h
        · rename_i hden
          rcases den_cases v with e | ⟨u, rfl, _, _⟩
          · rw [e] at hden; rw [hden]; rfl
          · rfl
        · cases h
      · split at h
        · rename_i hden
          rcases den_cases v with e | ⟨u, rfl, _, _⟩
          · rw [e] at hden; rw [hden]; rfl
          · rfl
        · cases h
      · split at h <;> first | rfl | cases h
      · split at h
        · rename_i z' _
          cases e : deep z' v with
          | none => rw [e] at h; cases h
          | some ys => exact h1 e
        · cases h
      · split at h
        · rename_i hp
          simp only [Bool.and_eq_true] at hp
          have := vbeq1_eq hp.2
          rw [← this]
          have hp1 := hp.1
          clear h hp this
          cases z <;> first | rfl | (simp [plain1] at hp1)
        · cases h
    exact rawCell_ok hd h (hv.one_of_oneCell hone)
theorem rawVs_ok {fz : Nat → Nat → Option Value} {deep : Value → Value → Option (List Value)} (hd : ∀ {z v v' xs}, deep z v = some xs → VR1 μ v v' → DR fz (dsl z xs) v') (h1 : ∀ {z v xs}, deep z v = some xs → v.oneCell' = true) : ∀ {zs vs xs vs' : List Value}, rawVs deep zs vs = some xs → All2 (VR μ) vs vs' → All2 (DRa fz) xs vs'
  | [], [], xs, vs', h, hv => by
    simp only [rawVs, Option.some.injEq] at h; subst h
    rw [hv.inv_nil]; exact All2.nil
  | z :: zs, v :: vs, xs, vs', h, hv => by
    unfold rawVs at h
    split at h
    · rename_i x xs' hx hxs
      simp only [Option.some.injEq] at h; subst h
      obtain ⟨v', l, rfl, r, hl⟩ := hv.inv_cons
      exact All2.cons (rawV_ok hd h1 hx r) (rawVs_ok hd h1 hxs hl)
    · cases h
  | [], _ :: _, _, _, h, _ => by simp [rawVs] at h
  | _ :: _, [], _, _, h, _ => by simp [rawVs] at h
theorem ba_beq (a b : ByteArray) : (a == b) = (a.data.toList == b.data.toList) := by
  rw [beq_toListBytes, ByteArray.toList_eq, ByteArray.toList_eq]
/-- What is raw is so already. -/
theorem norm_rawV {deep : Value → Value → Option (List Value)} {z v x : Value} (hd : ∀ {z v v' xs}, deep z v = some xs → VR1 μ v v' → DR μ.z (dsl z xs) v') (h : rawV deep z v = some x) : normE z x = x := by
  unfold rawV at h
  split at h
  · rename_i zs
    split at h
    · rename_i cs
      split at h
      · rename_i xs hxs
        simp only [Option.some.injEq] at h; subst h
        have he : rawElem deep (.agg zs) cs.toList = some (.agg xs.toArray, []) := by unfold rawElem; simp only [hxs]
        obtain ⟨used, hu, h2, h3, h4, h5⟩ := rawCells_ok hd hxs
        unfold normE
        have hc : cellsN (.agg zs) (.agg xs.toArray) = xs := by
          rw [cellsN_agg]
          refine List.ext_getElem? fun i => ?_
          rw [List.getElem?_map, List.getElem?_zipIdx]
          cases hz : zs.toList[i]? with
          | none =>
            rw [List.getElem?_eq_none_iff] at hz
            rw [List.getElem?_eq_none (by omega)]; rfl
          | some z =>
            have hlt := (List.getElem?_eq_some_iff.1 hz).1
            have hx := List.getElem?_eq_getElem (l := xs) (i := i) (by omega)
            rw [hx]
            simp only [Option.map_some, Nat.zero_add]
            have : fld (.agg xs.toArray) i = xs[i]'(by omega) := by
              unfold fld Value.cells
              rw [Array.getD_eq_getD_getElem?, List.getElem?_toArray, hx]; rfl
            rw [this, h4 i z _ hz hx]
        simp only [hc]
      · cases h
    · cases h
  · rename_i hna
    unfold normE
    split
    · exact absurd rfl (hna _)
    · exact norm_raw h
theorem viewE_ok {z x v' : Value} (h : DRa μ.z (normE z x) v') : VRa μ (viewE std z x) v' := by
  unfold normE at h
  unfold viewE
  split at h
  · rename_i zs
    rcases h with ⟨h1, _⟩ | ⟨xs, ys, h1, rfl, h3⟩
    · simp [isAggV] at h1
    · simp only [Value.agg.injEq] at h1
      subst h1
      refine .agg ⟨?_, fun i u hu => ?_⟩
      · have := h3.1
        simp only at this ⊢
        rw [viewC_len, ← this, cellsN_len]
      · simp only at hu
        have hlt := (List.getElem?_eq_some_iff.1 hu).1
        rw [viewC_len] at hlt
        have h4 := List.getElem?_eq_getElem (l := cellsN (.agg zs) x) (i := i) (by rw [cellsN_len]; exact hlt)
        obtain ⟨b, hb, r⟩ := h3.2 i _ (by rw [← h4])
        exact ⟨b, hb, .zero (viewC_ok hu fun y hy => by rw [h4] at hy; cases hy; exact r)⟩
  · rename_i hna
    have : DR μ.z (norm1 z x) v' := by
      rcases h with ⟨_, h⟩ | ⟨xs, ys, h1, rfl, h3⟩
      · exact h
      · exfalso
        unfold norm1 at h1
        split at h1 <;> first | (cases h1; done) | skip
        split at h1
        · exact absurd h1 (hna _)
        · cases h1
    split
    · exact absurd rfl (hna _)
    · exact .one (.zero (view1_ok this))

theorem keyT_kind {kt : TypeId} {kz : Value} (h : keyT P kt kz = true) : ∃ kd, P.underlying kt = some kd ∧ keyKind kd = true ∧ ((kd = .string ∧ ∃ s, kz = .string s) ∨ ∃ k n, kd = .int k ∧ kz = .int k n) := by
  unfold keyT at h
  split at h
  · rename_i h1; exact ⟨_, h1, rfl, .inl ⟨rfl, _, rfl⟩⟩
  · rename_i k k' n h1
    have := of_decide_eq_true h; subst this
    exact ⟨_, h1, rfl, .inr ⟨_, _, rfl, rfl⟩⟩
  · cases h
theorem keyV_spec {kz v key v' : Value} (h : keyV kz v = some key) (hv : VR μ v v') : v' = key ∧ norm1 kz key = key := by
  unfold keyV at h
  split at h
  · rename_i s1 s hd
    simp only [Option.some.injEq] at h; subst h
    have h1 := hv.den
    rw [hd] at h1
    exact ⟨h1.eq_of_plain rfl, rfl⟩
  · rename_i k n k' m hd
    split at h
    · rename_i hk
      subst hk
      simp only [Option.some.injEq] at h; subst h
      have h1 := hv.den
      rw [hd] at h1
      exact ⟨h1.eq_of_plain rfl, rfl⟩
    · cases h
  · cases h
theorem same_key {kd : TypeDesc} {kz key e1 : Value} (hk : (kd = .string ∧ ∃ s, kz = .string s) ∨ ∃ k n, kd = .int k ∧ kz = .int k n) (hn : norm1 kz key = key) : Instr.sameNow kd key (norm1 kz e1) = some (keyB kz e1 key) := by
  rcases hk with ⟨rfl, s, rfl⟩ | ⟨k, n, rfl, rfl⟩
  · rw [← hn]
    show some (dstr key == dstr e1) = some ((dstr e1).data.toList == (dstr (.string (dstr key))).data.toList)
    rw [ba_beq]
    congr 1
    exact Bool.eq_iff_iff.2 ⟨fun h => by simp at h ⊢; exact h.symm, fun h => by simp at h ⊢; exact h.symm⟩
  · rw [← hn]
    show (if k = k then some (dint key == dint e1) else none) = some (dint e1 == dint (.int k (dint key)))
    rw [if_pos rfl]
    congr 1
    exact Bool.eq_iff_iff.2 ⟨fun h => by simp at h ⊢; exact h.symm, fun h => by simp at h ⊢; exact h.symm⟩
/-- Where a key is. -/
theorem findS {fz : Nat → Nat → Option Value} {kd : TypeDesc} {kz vz key : Value} (hk : (kd = .string ∧ ∃ s, kz = .string s) ∨ ∃ k n, kd = .int k ∧ kz = .int k n) (hn : norm1 kz key = key) :
    ∀ {es : List (Value × Value)} {es' : List MapEntry} {i : Nat}, All2 (SMR fz kz vz) es es' →
    (mfind kz es key = none ∧ Instr.findNow kd key es' i = some none ∧ (∀ v, mput kz es key v = es ++ [(key, v)]) ∧ mdel kz es key = es ∧ ∀ e ∈ es', e.key ≠ key) ∨
    ∃ j u v', mfind kz es key = some u ∧ Instr.findNow kd key es' i = some (some (i + j, v')) ∧ DRa fz (normE vz u) v' ∧ (∀ v, mput kz es key v = es.set j (key, v)) ∧ mdel kz es key = es.eraseIdx j ∧ ∃ e, es'[j]? = some e ∧ e.key = key
  | [], es', i, h => by
    have := h.inv_nil; subst this
    exact .inl ⟨rfl, rfl, fun v => rfl, rfl, fun e he => by cases he⟩
  | e :: es, es', i, h => by
    obtain ⟨e', es'', rfl, he, hr⟩ := h.inv_cons
    have hs := same_key (e1 := e.1) hk hn
    rw [← he.key] at hs
    cases hb : keyB kz e.1 key with
    | true =>
      rw [hb] at hs
      refine .inr ⟨0, e.2, e'.val, ?_, ?_, he.val, fun v => ?_, ?_, e', rfl, ((sameNow_eq hs).1).symm⟩
      · unfold mfind; rw [if_pos hb]
      · unfold Instr.findNow; rw [hs]; rfl
      · unfold mput; rw [if_pos hb]; rfl
      · unfold mdel; rw [if_pos hb]; rfl
    | false =>
      rw [hb] at hs
      have hne : ¬ keyB kz e.1 key = true := by rw [hb]; exact Bool.false_ne_true
      have hkey : e'.key ≠ key := by
        intro h1
        rw [h1] at hs
        have h2 : Instr.sameNow kd key key = some true := by
          rcases hk with ⟨rfl, s, rfl⟩ | ⟨k, n, rfl, rfl⟩
          · rw [← hn]; show some (dstr key == dstr key) = some true; rw [ba_refl]
          · rw [← hn]; show (if k = k then some (dint key == dint key) else none) = some true; simp
        rw [h2] at hs; cases hs
      rcases findS (i := i + 1) hk hn hr with ⟨h1, h2, h3, h4, h5⟩ | ⟨j, u, v', h1, h2, h3, h4, h5, e0, h6, h7⟩
      · refine .inl ⟨?_, ?_, fun v => ?_, ?_, fun x hx => ?_⟩
        · unfold mfind; rw [if_neg hne]; exact h1
        · unfold Instr.findNow; rw [hs]; exact h2
        · unfold mput; rw [if_neg hne, h3]; rfl
        · unfold mdel; rw [if_neg hne, h4]
        · rcases List.mem_cons.1 hx with rfl | hx
          · exact hkey
          · exact h5 x hx
      · refine .inr ⟨j + 1, u, v', ?_, ?_, h3, fun v => ?_, ?_, e0, by simpa using h6, h7⟩
        · unfold mfind; rw [if_neg hne]; exact h1
        · unfold Instr.findNow; rw [hs]; simp only; rw [h2, show i + 1 + j = i + (j + 1) from by omega]
        · unfold mput; rw [if_neg hne, h4]; rfl
        · unfold mdel; rw [if_neg hne, h5]; rfl

theorem deepH_ok {h : Hp} (hr : Rel μ base h.get w) : ∀ {z v v' : Value} {xs : List Value}, deepV h (fun _ => false) 6 z v = some xs → VR1 μ v v' → DR μ.z (dsl z xs) v' := by
  intro z v v' xs h1 h2
  have h3 := deepV_ok (S := fun _ => False) (ok := fun _ => false) (fun b hb => by cases hb) hr 6 h1 h2
  have hz : zf μ h.get w (fun _ => False) = μ.z := by
    funext c i
    unfold zf
    rw [if_neg (by rintro ⟨_, _, _, h, _⟩; exact h)]
  rw [hz] at h3
  exact h3
theorem rawH_ok {h : Hp} (hr : Rel μ base h.get w) {z v x v' : Value} (hx : rawV (deepV h (fun _ => false) 6) z v = some x) (hv : VR μ v v') : DRa μ.z (normE z x) v' := by
  rw [norm_rawV (μ := μ) (deepH_ok hr) hx]
  exact rawV_ok (deepH_ok hr) deepV_one hx hv
theorem smapAt_run {m m' kz vz : Value} {h : Hp} {b : Nat} {es : List (Value × Value)} (hm : smapAt m h = some (b, kz, vz, es)) (hr : Rel μ base h.get w) (hv : VR μ m m') :
    ∃ p es' ck, μ b = some p ∧ m' = .map (some p.c) ∧ h.get b = some (.smap kz vz es) ∧ w.heap[p.c]? = some (.map es' ck) ∧ All2 (SMR μ.z kz vz) es es'.toList ∧ base ≤ p.c ∧ isKeyZ kz = true ∧ wfM es'.toList ck := by
  unfold smapAt at hm
  split at hm
  · rename_i b0
    obtain ⟨p, hp, rfl⟩ := hv.inv_map
    split at hm
    · rename_i kz0 vz0 es0 hg
      simp only [Option.some.injEq, Prod.mk.injEq] at hm
      obtain ⟨rfl, rfl, rfl, rfl⟩ := hm
      obtain ⟨es', ck, h1, h2⟩ := hr.blk b0 p _ hp hg
      exact ⟨p, es', ck, hp, rfl, hg, h1, h2⟩
    · cases hm
  · cases hm
theorem zeroOk_run {et : TypeId} {vz z0 : Value} (hz : zeroA P et = some z0) (ho : zeroOk vz z0 = true) (w : World) : (zeroValue et).run P w = .ok z0 w ∧ ∀ fz, DRa fz (normE vz vz) z0 := by
  obtain ⟨h1, h2⟩ := zeroA_run hz w
  suffices hs : DRa (fun _ _ => none) (normE vz vz) z0 from ⟨h1, fun fz => hs.mono fun _ _ _ h => by cases h⟩
  unfold zeroOk at ho
  split at ho
  · rename_i u hu
    have := zeq_eq ho; subst this
    let μ0 : Mu := ⟨fun _ => none, fun _ _ => none⟩
    have hdeep : ∀ {z v v' : Value} {xs : List Value}, deepV H0 (fun _ => false) 6 z v = some xs → VR1 μ0 v v' → DR μ0.z (dsl z xs) v' := by
      intro z v v' xs h3 h4
      have hr0 : Rel μ0 0 H0.get w := ⟨Nat.zero_le _, fun b p x hb _ => (by cases hb), fun b b' p p' x x' hb _ _ _ _ _ => (by cases hb), fun c i a h => (by cases h)⟩
      exact deepH_ok hr0 h3 h4
    rw [norm_rawV (μ := μ0) hdeep hu]
    exact rawV_ok (fz := fun _ _ => none) hdeep deepV_one hu (VR.refl_plain (plainA_spec h2).1)
  · cases ho
theorem getObj_smap {r : Nat} {es : Array MapEntry} {ck : Nat} (h : w.heap[r]? = some (.map es ck)) : (getObj r).run P w = .ok (.map es ck) w := by
  simp [getObj, Sem.run, h]
theorem wf_modify {es : List MapEntry} {ck j : Nat} {key v : Value} {e : MapEntry} (h : wfM es ck) (he : es[j]? = some e) (hk : e.key = key) : wfM (es.modify j fun e => { e with key := key, val := v }) ck := by
  have hb : (es.modify j fun e => { e with key := key, val := v }).map (·.born) = es.map (·.born) := by
    refine List.ext_getElem? fun i => ?_
    rw [List.getElem?_map, List.getElem?_map, List.getElem?_modify]
    cases es[i]? with
    | none => rfl
    | some x => simp only [Option.map_eq_map, Option.map_some]; split <;> rfl
  have hkk : (es.modify j fun e => { e with key := key, val := v }).map (·.key) = es.map (·.key) := by
    refine List.ext_getElem? fun i => ?_
    rw [List.getElem?_map, List.getElem?_map, List.getElem?_modify]
    cases hx : es[i]? with
    | none => rfl
    | some x =>
      simp only [Option.map_eq_map, Option.map_some]
      split
      · rename_i e1
        subst e1
        rw [he] at hx; cases hx
        simp only [hk]
      · rfl
  refine ⟨fun x hx => ?_, by rw [hb]; exact h.2.1, by rw [hkk]; exact h.2.2⟩
  have : x.born ∈ es.map (·.born) := by rw [← hb]; exact List.mem_map_of_mem hx
  obtain ⟨y, hy, e1⟩ := List.mem_map.1 this
  rw [← e1]; exact h.1 y hy
theorem wf_push {es : List MapEntry} {ck : Nat} {key v : Value} (h : wfM es ck) (hk : ∀ e ∈ es, e.key ≠ key) : wfM (es ++ [{ key := key, val := v, born := ck }]) (ck + 1) := by
  refine ⟨fun x hx => ?_, ?_, ?_⟩
  · rcases List.mem_append.1 hx with hx | hx
    · exact Nat.lt_succ_of_lt (h.1 x hx)
    · rw [List.mem_singleton.1 hx]; exact Nat.lt_succ_self _
  · rw [List.map_append, List.nodup_append]
    refine ⟨h.2.1, by simp, fun a ha b hb => ?_⟩
    obtain ⟨x, hx, rfl⟩ := List.mem_map.1 ha
    simp at hb; subst hb
    exact Nat.ne_of_lt (h.1 x hx)
  · rw [List.map_append, List.nodup_append]
    refine ⟨h.2.2, by simp, fun a ha b hb => ?_⟩
    obtain ⟨x, hx, rfl⟩ := List.mem_map.1 ha
    simp at hb; subst hb
    exact hk x hx
theorem wf_erase {es : List MapEntry} {ck j : Nat} (h : wfM es ck) : wfM (es.eraseIdx j) ck :=
  ⟨fun x hx => h.1 x (List.mem_of_mem_eraseIdx hx), h.2.1.sublist ((List.eraseIdx_sublist es j).map _), h.2.2.sublist ((List.eraseIdx_sublist es j).map _)⟩
/-- Such a map turned. -/
theorem sim_smap {h : Hp} {b : Nat} {p : Pl} {kz vz : Value} {es es2 : List (Value × Value)} {es' es2' : Array MapEntry} {ck ck2 : Nat} (hr : Rel μ base h.get w) (hp : μ b = some p) (hg : h.get b = some (.smap kz vz es))
    (hw : w.heap[p.c]? = some (.map es' ck)) (h2 : All2 (SMR μ.z kz vz) es2 es2'.toList) (hkz : isKeyZ kz = true) (hwf : wfM es2'.toList ck2) :
    ∃ w', (setObj p.c (.map es2' ck2)).run P w = .ok () w' ∧ Sim μ base h.get w μ (h.put b (some (.smap kz vz es2))).get w' := by
  obtain ⟨w', h3, h4⟩ := chg_setObj (P := P) (es2 := es2') (ck2 := ck2) hw
  obtain ⟨_, _, _, _, hb, _⟩ := hr.blk b p _ hp hg
  rw [get_put_fun (Hp.lt_of_get hg)]
  exact ⟨w', h3, sim_put hr hp hg rfl h4 ⟨es2', ck2, h4.at_, h2, hb, hkz, hwf⟩ rfl fun arr e fr h => (by rw [hw] at h; cases h)⟩

theorem symMR_ok {ρ : Operand → Value} {o : Oper} {h : Hp} {alts : List Alt} (e : symMR std P ρ o h = some alts) : kindOf P o.op = .R ∧ AltsOk alts fun a => a.h = h ∧ SemR P ρ o h a.v := by
  obtain ⟨dst, op, ty, pos, after, guard⟩ := o
  unfold symMR at e
  split at e
  · rename_i t m k ok ho
    simp only at ho; subst ho
    refine ⟨rfl, ?_⟩
    split at e
    case h_2 => cases e
    rename_i kt et b kz vz es hu hm
    split at e
    case h_2 => cases e
    rename_i key z0 hkey hz
    split at e
    case isFalse => cases e
    rename_i hc
    simp only [Bool.and_eq_true] at hc
    refine alts_pure e ⟨rfl, fun {μ base w ρ'} hr hrel => ?_⟩
    unfold OpR at hr
    simp only [Op.operands] at hr
    have h1 := hr m (by simp)
    have h2 := hr k (by simp)
    obtain ⟨hk', hn⟩ := keyV_spec hkey h2
    obtain ⟨p, es', ck, hp, hm', hg, hw, hes, hb, hkz, hwf⟩ := smapAt_run hm hrel h1
    obtain ⟨kd, hku, hkk, hkd⟩ := keyT_kind hc.1
    obtain ⟨hz1, hz2⟩ := zeroOk_run hz hc.2 w
    have mk : ∀ (x x' : Value) (okb : Bool), DRa μ.z (normE vz x) x' → VR μ (if ok = true then .tuple #[viewE std vz x, mkb okb] else viewE std vz x) (if ok = true then .tuple #[x', .bool okb] else x') := by
      intro x x' okb hx
      cases ok
      · exact .a (viewE_ok hx)
      · exact .tup (by simpa using All2.cons (viewE_ok hx) (All2.cons (VRa.one (.zero .mbool)) All2.nil))
    simp only [execOp, Instr.lookup, Sem.run_bind, run_underlying hu, Result.andThen_ok, hm', getObj_smap hw, Sem.run_pure, checkKey_run hku hkk, hk']
    rcases findS (i := 0) hkd hn hes with ⟨h3, h4, h5, h6, h7⟩ | ⟨j, u, v', h3, h4, h5, h6⟩
    · simp only [findKey_run hku h4, Result.andThen_ok, Sem.run_bind, hz1, Sem.run_pure]
      have e1 : std.mget kz vz es key = vz := by show mget kz vz es key = vz; unfold mget; rw [h3]; rfl
      have e2 : std.mhas kz es key = false := by show mhas kz es key = false; unfold mhas; rw [h3]; rfl
      rw [e1, e2]
      exact ⟨_, rfl, mk vz z0 false (hz2 _)⟩
    · simp only [findKey_run hku h4, Result.andThen_ok]
      have e1 : std.mget kz vz es key = u := by show mget kz vz es key = u; unfold mget; rw [h3]; rfl
      have e2 : std.mhas kz es key = true := by show mhas kz es key = true; unfold mhas; rw [h3]; rfl
      rw [e1, e2]
      exact ⟨_, rfl, mk u v' true h5⟩
  · rename_i args argTypes ho
    simp only at ho; subst ho
    split at e
    case h_2 => cases e
    rename_i t ht
    split at e
    case h_2 => cases e
    rename_i kt et m hu hm
    split at e
    case h_2 => cases e
    rename_i b kz vz es hs
    refine ⟨by simp [kindOf, ht, hu], alts_pure e ⟨rfl, fun {μ base w ρ'} hr hrel => ?_⟩⟩
    have hl : All2 (VR μ) (args.toList.map ρ) (args.map ρ').toList := by
      rw [Array.toList_map]
      exact list_rel fun x hx => hr x (by simpa [Op.operands, Call.operands] using hx)
    rw [hm] at hl
    obtain ⟨y, l, hy, hx, hn⟩ := hl.inv_cons
    have := hn.inv_nil; subst this
    have h0 : (args.map ρ')[0]? = some y := by rw [← Array.getElem?_toList, hy]; rfl
    obtain ⟨p, es', ck, hp, hm', hg, hw, hes, hb, hkz, hwf⟩ := smapAt_run hs hrel hx
    have hsz : es'.size = es.length := by rw [← hes.1.symm.trans rfl]; simp
    refine ⟨goInt es'.size, ?_, ?_⟩
    · subst hm'
      simp [execOp, resolve, invoke, builtin, Builtin.len_, ht, h0, run_underlying hu, getObj_smap hw]
    · rw [hsz]; exact .zero (.mark (.plain rfl) rfl)
  · cases e

theorem symMU_ok {t : TypeId} {m k x : Operand} {ρ ρ' : Operand → Value} {h : Hp} {alts : List Alt} (e : symMU std P ρ t m k x h = some alts) (hr : Rel μ base h.get w) (hm0 : VR μ (ρ m) (ρ' m)) (hk0 : VR μ (ρ k) (ρ' k)) (hx0 : VR μ (ρ x) (ρ' x)) :
    ∃ h' w', alts = [⟨none, none, undef, h'⟩] ∧ (Instr.mapUpdate t (ρ' m) (ρ' k) (ρ' x)).run P w = .ok () w' ∧ Sim μ base h.get w μ h'.get w' ∧ h'.next = h.next ∧ Keeps μ h h' := by
  unfold symMU at e
  split at e
  case h_2 => cases e
  rename_i kt et b kz vz es hu hm
  split at e
  case h_2 => cases e
  rename_i key u hkey hx
  split at e
  case isFalse => cases e
  rename_i hc
  unfold pure1 at e
  simp only [Option.some.injEq] at e; subst e
  obtain ⟨hk', hn⟩ := keyV_spec hkey hk0
  obtain ⟨p, es', ck, hp, hm', hg, hw, hes, hb, hkz, hwf⟩ := smapAt_run hm hr hm0
  obtain ⟨kd, hku, hkk, hkd⟩ := keyT_kind hc
  have hv := rawH_ok hr hx hx0
  rcases findS (i := 0) hkd hn hes with ⟨h3, h4, h5, h6, h7⟩ | ⟨j, u', v', h3, h4, h5, h6, h7, e0, h8, h9⟩
  · have happ : All2 (SMR μ.z kz vz) (std.mput kz es key u) (es'.push { key := key, val := ρ' x, born := ck }).toList := by
      show All2 _ (mput kz es key u) _
      rw [h5, Array.toList_push]
      exact hes.append (All2.cons ⟨hn.symm, hv⟩ All2.nil)
    obtain ⟨w', h10, h11⟩ := sim_smap (P := P) (ck2 := ck + 1) hr hp hg hw happ hkz (by rw [Array.toList_push]; exact wf_push hwf h7)
    refine ⟨_, w', rfl, ?_, h11, rfl, .put hp (Hp.lt_of_get hg)⟩
    simp only [Instr.mapUpdate, Sem.run_bind, run_underlying hu, Result.andThen_ok, hm', getObj_smap hw, checkKey_run hku hkk, hk', findKey_run hku h4, h10]
  · have hmod : All2 (SMR μ.z kz vz) (std.mput kz es key u) (es'.modify j fun e => { e with key := key, val := ρ' x }).toList := by
      show All2 _ (mput kz es key u) _
      rw [h6, Array.toList_modify]
      refine ⟨by simp [hes.1], fun i a ha => ?_⟩
      rw [List.getElem?_set] at ha
      rw [List.getElem?_modify]
      split at ha
      · rename_i e1
        subst e1
        rw [h8]
        split at ha
        · simp only [Option.some.injEq] at ha; subst ha
          refine ⟨{ e0 with key := key, val := ρ' x }, by simp, ⟨hn.symm, hv⟩⟩
        · cases ha
      · rename_i e1
        obtain ⟨b', hb', r⟩ := hes.2 i a ha
        refine ⟨b', ?_, r⟩
        rw [hb']; simp [e1]
    obtain ⟨w', h10, h11⟩ := sim_smap (P := P) (ck2 := ck) hr hp hg hw hmod hkz (by rw [Array.toList_modify]; exact wf_modify hwf h8 h9)
    have hstay : (Instr.keyThatStays (((es'[j]?).map (·.key)).getD key) key).run P w = .ok key w := by
      rw [← Array.getElem?_toList, h8]
      simp only [Option.map_some, Option.getD_some, h9]
      unfold Instr.keyThatStays
      have hs : Instr.sameNow kd key key = some true := by
        rcases hkd with ⟨rfl, s, rfl⟩ | ⟨k, n, rfl, rfl⟩
        · rw [← hn]; show some (dstr key == dstr key) = some true; rw [ba_refl]
        · rw [← hn]; show (if k = k then some (dint key == dint key) else none) = some true; simp
      rw [if_pos (sameNow_bits hs 10000)]
      rfl
    rw [Nat.zero_add] at h4
    refine ⟨_, w', rfl, ?_, h11, rfl, .put hp (Hp.lt_of_get hg)⟩
    simp only [Instr.mapUpdate, Sem.run_bind, run_underlying hu, Result.andThen_ok, hm', getObj_smap hw, checkKey_run hku hkk, hk', findKey_run hku h4, hstay, h10]
theorem symMU_next {t : TypeId} {m k x : Operand} {ρ : Operand → Value} {h : Hp} {alts : List Alt} (e : symMU std P ρ t m k x h = some alts) : ∃ h', alts = [⟨none, none, undef, h'⟩] ∧ h'.next = h.next := by
  unfold symMU at e
  split at e
  case h_2 => cases e
  split at e
  case h_2 => cases e
  split at e
  case isFalse => cases e
  unfold pure1 at e
  simp only [Option.some.injEq] at e; subst e
  exact ⟨_, rfl, rfl⟩
theorem symME_ok {o : Oper} {st : St} {alts : List Alt} (e : symME std P (evA st.tmps) o st.h = some alts) : AltsOk alts fun a => StepS P o st a.v a.h := by
  obtain ⟨dst, op, ty, pos, after, guard⟩ := o
  unfold symME at e
  split at e
  · rename_i t m k x ho
    simp only at ho; subst ho
    obtain ⟨h', rfl, hnx⟩ := symMU_next e
    refine ⟨⟨_, List.mem_singleton.2 rfl, trivial⟩, fun a ha _ _ => ?_⟩
    rw [List.mem_singleton.1 ha]
    refine .E rfl (Nat.le_of_eq hnx.symm) fun {μ base w a K Q} hr hrel hf hk => ?_
    unfold OpR at hr
    simp only [Op.operands] at hr
    obtain ⟨h2, w', h3, h4, h5, h6, h7⟩ := symMU_ok e hrel (hr m (by simp)) (hr k (by simp)) (hr x (by simp))
    simp only [List.cons.injEq, Alt.mk.injEq, and_true, true_and] at h3
    subst h3
    unfold Oper.wp
    simp only [execOp, Sem.run_bind, h4, Result.andThen_ok, Sem.run_pure]
    exact hk _ w' μ (Out.same (.undef μ) h5 h6 h7)
  · rename_i t m k x ho
    simp only at ho; subst ho
    obtain ⟨h', rfl, hnx⟩ := symMU_next e
    refine ⟨⟨_, List.mem_singleton.2 rfl, trivial⟩, fun a ha _ _ => ?_⟩
    rw [List.mem_singleton.1 ha]
    refine .E rfl (Nat.le_of_eq hnx.symm) fun {μ base w a K Q} hr hrel hf hk => ?_
    unfold OpR at hr
    simp only [Op.operands] at hr
    obtain ⟨h2, w', h3, h4, h5, h6, h7⟩ := symMU_ok e hrel (hr m (by simp)) (hr k (by simp)) (hr x (by simp))
    simp only [List.cons.injEq, Alt.mk.injEq, and_true, true_and] at h3
    subst h3
    unfold Oper.wp
    simp only [execOp, Sem.run_bind, h4, Result.andThen_ok, Sem.run_pure]
    exact hk _ w' μ (Out.same (.undef μ) h5 h6 h7)
  · rename_i args argTypes ho
    simp only at ho; subst ho
    split at e
    case h_2 => cases e
    rename_i t m k ht hargs
    split at e
    case h_2 => cases e
    rename_i kt et b kz vz es hu hm
    split at e
    case h_2 => cases e
    rename_i key hkey
    split at e
    case isFalse => cases e
    rename_i hc
    refine alts_pure e ?_
    refine .E rfl (Nat.le_refl _) fun {μ base w a K Q} hr hrel hf hk => ?_
    have hl : All2 (VR μ) (args.toList.map (evA st.tmps)) (args.map a.eval).toList := by
      rw [Array.toList_map]
      exact list_rel fun x hx => hr x (by simpa [Op.operands, Call.operands] using hx)
    rw [hargs] at hl
    obtain ⟨m', l, hy, hx, hn⟩ := hl.inv_cons
    obtain ⟨k', l', hy', hx', hn'⟩ := hn.inv_cons
    have := hn'.inv_nil; subst this
    rw [hy'] at hy
    have h0 : (args.map a.eval)[0]? = some m' := by rw [← Array.getElem?_toList, hy]; rfl
    have h1 : (args.map a.eval)[1]? = some k' := by rw [← Array.getElem?_toList, hy]; rfl
    obtain ⟨hk', hnn⟩ := keyV_spec hkey hx'
    obtain ⟨p, es', ck, hp, hm', hg, hw, hes, hb, hkz, hwf⟩ := smapAt_run hm hrel hx
    obtain ⟨kd, hku, hkk, hkd⟩ := keyT_kind hc
    have run : ∃ w', (Builtin.delete_ argTypes ty (args.map a.eval)).run P w = .ok (.tuple #[]) w' ∧ Sim μ base st.h.get w μ (st.h.put b (some (.smap kz vz (std.mdel kz es key)))).get w' := by
      rcases findS (i := 0) hkd hnn hes with ⟨h3, h4, h5, h6, h7⟩ | ⟨j, u', v', h3, h4, h5, h6, h7, e0, h8, h9⟩
      · obtain ⟨w', h10, h11⟩ := sim_smap (P := P) (ck2 := ck) (es2 := std.mdel kz es key) hrel hp hg hw (by show All2 _ (mdel kz es key) _; rw [h6]; exact hes) hkz hwf
        refine ⟨w', ?_, h11⟩
        simp only [Builtin.delete_, ht, h0, h1, Sem.run_bind, run_underlying hu, Result.andThen_ok, hm', getObj_smap hw, checkKey_run hku hkk, hk', findKey_run hku h4, h10, Sem.run_pure]
      · have he : (es'.eraseIdxIfInBounds j).toList = es'.toList.eraseIdx j := by
          unfold Array.eraseIdxIfInBounds
          split
          · simp
          · rename_i hge; rw [List.eraseIdx_of_length_le (by simpa using hge)]
        have her : All2 (SMR μ.z kz vz) (std.mdel kz es key) (es'.eraseIdxIfInBounds j).toList := by
          show All2 _ (mdel kz es key) _
          rw [h7, he]
          refine ⟨by simp [List.length_eraseIdx, hes.1], fun i a ha => ?_⟩
          rw [List.getElem?_eraseIdx] at ha ⊢
          split at ha
          · rename_i hlt; rw [if_pos hlt]; exact hes.2 i a ha
          · rename_i hlt; rw [if_neg hlt]; exact hes.2 _ a ha
        obtain ⟨w', h10, h11⟩ := sim_smap (P := P) (ck2 := ck) hrel hp hg hw her hkz (by rw [he]; exact wf_erase hwf)
        rw [Nat.zero_add] at h4
        refine ⟨w', ?_, h11⟩
        simp only [Builtin.delete_, ht, h0, h1, Sem.run_bind, run_underlying hu, Result.andThen_ok, hm', getObj_smap hw, checkKey_run hku hkk, hk', findKey_run hku h4, h10, Sem.run_pure]
    obtain ⟨w', h10, h11⟩ := run
    unfold Oper.wp
    have hex : (execOp a.eval ⟨dst, .call { callee := .builtin .delete, args := args, argTypes := argTypes }, ty, pos, after, guard⟩).run P w = .ok (.value (.tuple #[])) w' := by
      simp only [execOp, resolve, invoke, builtin, Sem.run_bind, Sem.run_pure, Result.andThen_ok, h10]
    rw [hex]
    exact hk _ w' μ (Out.same (.undef μ) h11 rfl (.put hp (Hp.lt_of_get hg)))
  · cases e
end
end Go.Abs
end
section
namespace Go.Abs
open Go

noncomputable section
variable (S : Sy)
/-- A place in a row of a block. -/
def asRptr (v : Value) : Option (Nat × Nat × Nat × Nat) :=
  match v with
  | .func (.yield 4) f x => match f.toList, x.toList with
    | [.pointer (some ⟨b, 0, none⟩)], [.slice none e 0, .slice none i j] => some (b, e, i, j)
    | _, _ => none
  | _ => none
def symVT (P : Program) (ρ : Operand → Value) (o : Oper) (h : Hp) : Option (List Alt) :=
  match o.op with
  | .indexAddr t x i => match P.underlying t, den (ρ x), den (ρ i) with
    | some (.slice e), .slice (some ⟨b, 0, none⟩) n _, .int _ k => match h.get b with
      | some (.row (.vals z _) _) => if szA P e = some z.cells.size then one h (S.ile 0 k ∧ S.ilt k (S.int n)) (rptr b z.cells.size (S.nat k) 0) else none
      | _ => none
    | _, _, _ => none
  | .fieldAddr s x f => match P.underlying s, asRptr (ρ x) with
    | some (.struct fs), some (b, e, i, j) => match fs[f]? with
      | some fd => match szA P fd.type with
        | some (_ + 1) => pure1 h (rptr b e i (j + fd.offset))
        | _ => none
      | none => none
    | _, _ => none
  | .nilCheck x => match asRptr (ρ x) with
    | some _ => pure1 h (ρ x)
    | none => none
  | _ => none
def symVR (P : Program) (ρ : Operand → Value) (o : Oper) (h : Hp) : Option (List Alt) :=
  match o.op with
  | .load t a => match asRptr (ρ a), P.underlying t, szA P t with
    | some (b, e, i, j), some d, some n => match h.get b with
      | some (.row (.vals z xs) _) =>
        if e = z.cells.size then
          if isAggD d then (if j + n ≤ e then one h (S.nlt i (S.len xs)) (.agg (((viewC S z (S.get z xs i)).drop j).take n).toArray) else none)
          else match (viewC S z (S.get z xs i))[j]? with
            | some v => one h (S.nlt i (S.len xs)) v
            | none => none
        else none
      | _ => none
    | _, _, _ => none
  | _ => none
/-- Nothing at all, to be appended to. -/
def emptyV (z s : Value) : Bool :=
  match s with
  | .slice none 0 0 => true
  | .func (.yield 5) f xs => match f.toList, xs.toList with
    | [z0, .slice none _ 1], [] => zeq 5 z0 z
    | _, _ => false
  | _ => false
def symVE (P : Program) (ρ : Operand → Value) (o : Oper) (h : Hp) : Option (List Alt) :=
  match o.op with
  | .store t a x => match asRptr (ρ a), szA P t with
    | some (b, e, i, j), some n => match h.get b with
      | some (.row (.vals z xs) false) =>
        if e = z.cells.size then match rawCells (deepV h (fun _ => false) 6) ((z.cells.toList.drop j).take n) (ρ x).cells.toList with
          | some (us, []) => if us.length = n ∧ 0 < n then
              some [⟨none, some (S.nlt i (S.len xs)), undef, h.put b (some (.row (.vals z (S.set xs i (S.setc z (S.get z xs i) j us))) false))⟩] else none
          | _ => none
        else none
      | _ => none
    | _, _ => none
  | .call { callee := .builtin .append, args, argTypes } => match argTypes.toList, args.toList with
    | [st, xt], [s, x] => match P.underlying st with
      | some (.slice e) => match P.info? e, zeroA P e, zeroD P 6 e with
        | some i, some z0, some z =>
          if 0 < i.size ∧ z0.cells.size = i.size ∧ z.cells.size = i.size ∧ 0 < i.bytes ∧ emptyV z (ρ s) = true then
            match srcD S P z xt (ρ x) h with
            | some ys => some [⟨some (S.nbeq (S.len ys) 0 = true), none, ρ s, h⟩,
                ⟨some (S.nbeq (S.len ys) 0 = false), some (S.nle (S.nmul (S.len ys) i.bytes) 140737488355328), mk (.slice (some ⟨h.next, 0, none⟩) (S.len ys) (unk i.size)), h.push (.row (.vals z ys) false)⟩]
            | none => none
          else none
        | _, _, _ => none
      | _ => none
    | _, _ => none
  | _ => none
/-- With these ahead, or behind. -/
def symTV (P : Program) (ρ : Operand → Value) (o : Oper) (h : Hp) : Option (List Alt) :=
  match symVT S P ρ o h with
  | some l => some l
  | none => symT S P ρ o h
def symMV (P : Program) (ρ : Operand → Value) (o : Oper) (h : Hp) : Option (List Alt) :=
  match symMR S P ρ o h with
  | some l => some l
  | none => symVR S P ρ o h
def symEV (P : Program) (ρ : Operand → Value) (o : Oper) (h : Hp) : Option (List Alt) :=
  match symME S P ρ o h with
  | some l => some l
  | none => symVE S P ρ o h
end

section
variable {P : Program} {μ : Mu} {base : Nat} {w : World}

theorem rptr_inv {v v' : Value} {b e i j : Nat} (hd : asRptr v = some (b, e, i, j)) (h : VR μ v v') :
    ∃ p, μ b = some p ∧ v' = .pointer (some ⟨p.c, p.s + i * e + j, none⟩) ∧ v = rptr b e i j := by
  unfold asRptr at hd
  split at hd
  case h_2 => cases hd
  rename_i f x
  split at hd
  case h_2 => cases hd
  rename_i b0 e0 i0 j0 hf hx
  simp only [Option.some.injEq, Prod.mk.injEq] at hd
  obtain ⟨rfl, rfl, rfl, rfl⟩ := hd
  have hf : f = #[.pointer (some ⟨b0, 0, none⟩)] := by rw [← Array.toList_inj, hf]
  have hx : x = #[.slice none e0 0, .slice none i0 j0] := by rw [← Array.toList_inj, hx]
  subst hf; subst hx
  have h0 := h.zero_of_basic rfl
  have hv : Value.func (Fn.yield 4) #[.pointer (some ⟨b0, 0, none⟩)] #[.slice none e0 0, .slice none i0 j0] = rptr b0 e0 i0 j0 := rfl
  rw [hv] at h0
  generalize hg : rptr b0 e0 i0 j0 = d at h0
  cases h0 with
  | rptr hp => simp [Abs.rptr] at hg; obtain ⟨rfl, rfl, rfl, rfl⟩ := hg; exact ⟨_, hp, rfl, rfl⟩
  | plain hp => subst hg; simp [plain1, Abs.rptr] at hp
  | mark _ _ => simp [mk, Abs.rptr] at hg
  | deep _ => simp [dsl, Abs.rptr] at hg
  | osl _ _ _ => simp [Abs.osq, Abs.rptr] at hg
  | fptr _ _ _ => simp [Abs.fptr, Abs.rptr] at hg
  | mbool => simp [mkb, Abs.rptr] at hg
  | _ => cases hg

theorem symVT_ok {ρ : Operand → Value} {o : Oper} {h : Hp} {alts : List Alt} (e : symVT std P ρ o h = some alts) : kindOf P o.op = .T ∧ AltsOk alts fun a => a.h = h ∧ SemT P ρ o a.v := by
  unfold symVT at e
  split at e
  · rename_i t x i ho
    split at e
    case h_2 => cases e
    rename_i el b n cp kk k hu hx hi
    split at e
    case h_2 => cases e
    rename_i z xs ro hb
    split at e
    case isFalse => cases e
    rename_i hsz
    refine ⟨by rw [ho]; rfl, alts_one e fun hob => ⟨rfl, ?_⟩⟩
    obtain ⟨h0, h1⟩ := hob
    have h0 : 0 ≤ k := h0
    have h1 : k < (n : Int) := h1
    intro μ ρ' w hr
    have hv := (hr x (by rw [ho]; simp [Op.operands])).den
    have hin := (hr i (by rw [ho]; simp [Op.operands])).den
    rw [hi] at hin
    have hin := hin.inv_int
    rw [hx] at hv
    rcases hv.inv_slice with ⟨p, k', hp, hs, hlk, _⟩ | ⟨hn, _⟩
    · refine ⟨.pointer (some ⟨p.c, p.s + k.toNat * z.cells.size + 0, none⟩), ?_, .zero (.rptr hp)⟩
      obtain ⟨dst, op, ty, pos, after, guard⟩ := o
      simp only at ho; subst ho
      have hadd : (⟨p.c, 0 + p.s, none⟩ : Addr).add (k.toNat * z.cells.size) = ⟨p.c, p.s + k.toNat * z.cells.size + 0, none⟩ := by
        unfold Addr.add; split
        · rename_i e0; simp only [Nat.zero_add, e0, Nat.add_zero]
        · simp
      have hb : 0 ≤ k ∧ k < (n : Int) := ⟨h0, h1⟩
      simp [execOp, Instr.indexAt, asIntOf, run_underlying hu, hin, hs, hb, szA_run hsz]
      rw [Nat.zero_add, Nat.add_zero] at hadd
      exact hadd
    · omega
  · rename_i s x f ho
    split at e
    case h_2 => cases e
    rename_i fs b e0 i j hu hd
    split at e
    case h_2 => cases e
    rename_i fd hf
    split at e
    case h_2 => cases e
    rename_i n hsz
    refine ⟨by rw [ho]; rfl, alts_pure e ⟨rfl, ?_⟩⟩
    intro μ ρ' w hr
    obtain ⟨p, hp, hs, _⟩ := rptr_inv hd (hr x (by rw [ho]; simp [Op.operands]))
    refine ⟨.pointer (some ⟨p.c, p.s + i * e0 + (j + fd.offset), none⟩), ?_, .zero (.rptr hp)⟩
    obtain ⟨dst, op, ty, pos, after, guard⟩ := o
    simp only at ho; subst ho
    have hadd : (⟨p.c, p.s + i * e0 + j, none⟩ : Addr).add fd.offset = ⟨p.c, p.s + i * e0 + (j + fd.offset), none⟩ := by
      unfold Addr.add; split
      · simp_all
      · simp; omega
    simp [execOp, Instr.fieldAt, run_underlying hu, hf, hs, Instr.sureAddr, fieldPlace, szA_run hsz, hadd]
  · rename_i x ho
    split at e
    case h_2 => cases e
    rename_i p hd
    refine ⟨by rw [ho]; rfl, alts_pure e ⟨rfl, ?_⟩⟩
    intro μ ρ' w hr
    obtain ⟨b, e0, i, j⟩ := p
    have hx := hr x (by rw [ho]; simp [Op.operands])
    obtain ⟨p, hp, hs, _⟩ := rptr_inv hd hx
    refine ⟨ρ' x, ?_, hx⟩
    obtain ⟨dst, op, ty, pos, after, guard⟩ := o
    simp only at ho; subst ho
    simp only [execOp, hs]
    rfl
  · cases e

/-- What a raw cell stands for is raw data. -/
theorem raw_dr {z x v' : Value} (h : VR1 μ (norm1 z x) v') : DR μ.z (norm1 z x) v' := by
  unfold norm1 at h ⊢
  split at h
  · rw [h.eq_of_plain rfl]; exact .plain rfl
  · rw [h.eq_of_plain rfl]; exact .plain rfl
  · rw [h.eq_of_plain rfl]; exact .plain rfl
  · rename_i f ys
    show DR μ.z (.func (.yield 1) f (dels x).toArray) v'
    have h0 := h.zero_of_basic rfl
    generalize hg : Value.func (Fn.yield 1) f (dels x).toArray = d at h0
    cases h0 with
    | deep hd => exact hd
    | plain hp => exact .plain hp
    | mark _ _ => simp [mk] at hg
    | osl _ _ _ => simp [Abs.osq] at hg
    | fptr _ _ _ => simp [Abs.fptr] at hg
    | rptr _ => simp [Abs.rptr] at hg
    | mbool => simp [mkb] at hg
    | _ => cases hg
  · by_cases hp : plain1 z = true
    · rw [if_pos hp] at h ⊢; rw [h.eq_of_plain hp]; exact .plain hp
    · rw [if_neg hp] at h ⊢; rw [h.eq_of_plain rfl]; exact .plain rfl
theorem cellsN_norm {z x y : Value} {i : Nat} (h : (cellsN z x)[i]? = some y) : ∃ z' x', y = norm1 z' x' := by
  unfold cellsN at h
  split at h
  · rw [List.getElem?_map] at h
    cases e : (List.zipIdx _)[i]? with
    | none => rw [e] at h; cases h
    | some p => rw [e] at h; simp at h; exact ⟨_, _, h.symm⟩
  · cases i with
    | zero => simp at h; exact ⟨_, _, h.symm⟩
    | succ i => simp at h
theorem flat_norm {z y : Value} : ∀ {xs : List Value} {i : Nat}, (flatN z xs)[i]? = some y → ∃ z' x', y = norm1 z' x'
  | [], i, h => by simp [flatN] at h
  | x :: xs, i, h => by
    rw [flatN_cons, List.getElem?_append] at h
    split at h
    · exact cellsN_norm h
    · exact flat_norm h
theorem dr_vr {x v' : Value} (h : DR μ.z x v') : VR0 μ x v' := by
  cases h with
  | plain hp => exact .plain hp
  | nil => exact .deep .nil
  | sl val h1 h2 h3 h4 => exact .deep (.sl val h1 h2 h3 h4)

theorem symVR_ok {ρ : Operand → Value} {o : Oper} {h : Hp} {alts : List Alt} (e : symVR std P ρ o h = some alts) : kindOf P o.op = .R ∧ AltsOk alts fun a => a.h = h ∧ SemR P ρ o h a.v := by
  unfold symVR at e
  split at e
  case h_2 => cases e
  rename_i t a ho
  split at e
  case h_2 => cases e
  rename_i b e0 i j d n hd hu hsz
  split at e
  case h_2 => cases e
  rename_i z xs ro hb
  split at e
  case isFalse => cases e
  rename_i he
  subst he
  refine ⟨by rw [ho]; rfl, ?_⟩
  have cell : ∀ {μ : Mu} {base : Nat} {w : World} {ρ' : Operand → Value}, i < xs.length → OpR μ ρ ρ' o.op.operands.toList → Rel μ base h.get w → ∃ (c of : Nat) (val : Nat → Value), ρ' a = .pointer (some ⟨c, of + j, none⟩) ∧
      ∀ k u, (viewC std z (std.get z xs i))[k]? = some u → w.cell? ⟨c, of + k, none⟩ = some (val k) ∧ VR0 μ u (val k) := by
    intro μ base w ρ' hi hr hrel
    obtain ⟨p, hp, hs, _⟩ := rptr_inv hd (hr a (by rw [ho]; simp [Op.operands]))
    obtain ⟨arr, el, fr, h1, h2, h3, _⟩ := hrel.blk b p _ hp hb
    refine ⟨p.c, p.s + i * z.cells.size, fun k => arr.getD (p.s + i * z.cells.size + k) (.bool false), hs, fun k u hk => ?_⟩
    have hlt := (List.getElem?_eq_some_iff.1 hk).1
    rw [viewC_len] at hlt
    have hf := flatN_get (z := z) hi hlt
    obtain ⟨ck, hc⟩ : ∃ ck, (cellsN z (xs.getD i z))[k]? = some ck := ⟨_, List.getElem?_eq_getElem (by rw [cellsN_len]; exact hlt)⟩
    rw [hc] at hf
    obtain ⟨v', h4, h5⟩ := h3 _ _ (show (Row.vals z xs).cells[i * z.cells.size + k]? = _ from hf)
    rw [← Nat.add_assoc] at h4
    have hg : arr.getD (p.s + i * z.cells.size + k) (.bool false) = v' := by rw [Array.getD_eq_getD_getElem?, h4]; rfl
    refine ⟨by rw [cell_of_row w p.c _ arr el fr h1, h4]; exact congrArg some hg.symm, ?_⟩
    show VR0 μ u (arr.getD (p.s + i * z.cells.size + k) (.bool false))
    rw [hg]
    refine viewC_ok hk fun y hy => ?_
    have hy : (cellsN z (xs.getD i z))[k]? = some y := hy
    rw [hc] at hy
    simp only [Option.some.injEq] at hy
    rw [hy] at h5
    obtain ⟨z', x', rfl⟩ := cellsN_norm (hc.trans (by rw [hy]))
    exact raw_dr h5
  split at e
  · rename_i hag
    split at e
    case isFalse => cases e
    rename_i hlen
    refine alts_one e fun hob => ⟨rfl, fun {μ base w ρ'} hr hrel => ?_⟩
    have hob : i < xs.length := hob
    obtain ⟨c, of, val, hs, h1⟩ := cell hob hr hrel
    have hvl : (viewC std z (std.get z xs i)).length = z.cells.size := viewC_len _ _
    have hl : (((viewC std z (std.get z xs i)).drop j).take n).length = n := by rw [List.length_take, List.length_drop]; omega
    refine ⟨.agg ((List.range n).map fun i => val (j + i)).toArray, ?_, .agg ?_⟩
    · have hc := run_loadCells_list (P := P) w ⟨c, of + j, none⟩ ((List.range n).map fun i => val (j + i)) (fun i v hv => by
        rw [List.getElem?_map] at hv
        cases hri : (List.range n)[i]? with
        | none => rw [hri] at hv; cases hv
        | some i' =>
          have hlt := (List.getElem?_eq_some_iff.1 hri)
          obtain ⟨hlt, he⟩ := hlt
          simp at he hlt
          subst he
          rw [hri] at hv
          simp only [Option.map_some, Option.some.injEq] at hv
          subst hv
          have := (h1 (j + i) _ (List.getElem?_eq_getElem (by omega))).1
          rw [← this]
          congr 1
          unfold Addr.add; split
          · simp_all
          · simp; omega)
      simp only [List.length_map, List.length_range] at hc
      obtain ⟨dst, op, ty, pos, after, guard⟩ := o
      simp only at ho; subst ho
      simp [execOp, Instr.loadAt, loadVar, Instr.sureAddr, hs, isAgg_run hu, hag, szA_run hsz, hc]
    · simp only
      refine ⟨by rw [hl]; simp, fun i' u hu' => ?_⟩
      have hi : i' < n := by have := (List.getElem?_eq_some_iff.1 hu').1; rw [hl] at this; exact this
      rw [List.getElem?_take, if_pos hi, List.getElem?_drop] at hu'
      exact ⟨val (j + i'), by simp [hi], .zero (h1 _ u hu').2⟩
  · rename_i hag
    have hag : isAggD d = false := by simpa using hag
    split at e
    case h_2 => cases e
    rename_i v hv
    refine alts_one e fun hob => ⟨rfl, fun {μ base w ρ'} hr hrel => ?_⟩
    have hob : i < xs.length := hob
    obtain ⟨c, of, val, hs, h1⟩ := cell hob hr hrel
    refine ⟨val j, ?_, .zero (h1 j v hv).2⟩
    have hc := (h1 j v hv).1
    obtain ⟨dst, op, ty, pos, after, guard⟩ := o
    simp only at ho; subst ho
    simp [execOp, Instr.loadAt, loadVar, Instr.sureAddr, hs, isAgg_run hu, hag, hc]

theorem splice_left : ∀ (us l r : List Value) (j : Nat), j + us.length ≤ l.length → spliceL (l ++ r) j us = spliceL l j us ++ r
  | [], l, r, j, _ => rfl
  | u :: us, l, r, j, h => by
    simp only [List.length_cons] at h
    show spliceL ((l ++ r).set j u) (j + 1) us = spliceL (l.set j u) (j + 1) us ++ r
    rw [List.set_append_left _ _ (by omega), splice_left us _ r (j + 1) (by rw [List.length_set]; omega)]
theorem splice_right : ∀ (us l r : List Value) (j : Nat), spliceL (l ++ r) (l.length + j) us = l ++ spliceL r j us
  | [], l, r, j => rfl
  | u :: us, l, r, j => by
    show spliceL ((l ++ r).set (l.length + j) u) (l.length + j + 1) us = l ++ spliceL (r.set j u) (j + 1) us
    rw [List.set_append_right _ _ (by omega), Nat.add_sub_cancel_left, Nat.add_assoc, splice_right us]
theorem cells_fix {zs L : List Value} (hl : L.length = zs.length) (h : ∀ (k : Nat) z u, zs[k]? = some z → L[k]? = some u → norm1 z u = u) : cellsN (.agg zs.toArray) (.agg L.toArray) = L := by
  apply List.ext_getElem?
  intro i
  show (zs.zipIdx.map fun p => norm1 p.1 (fld (.agg L.toArray) p.2))[i]? = _
  rw [List.getElem?_map, List.getElem?_zipIdx]
  cases hz : zs[i]? with
  | none => rw [List.getElem?_eq_none (by have := List.getElem?_eq_none_iff.1 hz; omega)]; rfl
  | some z =>
    have hi := (List.getElem?_eq_some_iff.1 hz).1
    have hui : L[i]? = some L[i] := List.getElem?_eq_getElem (by omega)
    rw [hui]
    have hf : fld (.agg L.toArray) i = L[i] := by simp [fld, Value.cells, Array.getD, hl, hi]
    simp only [Option.map_some, Nat.zero_add, Option.some.injEq]
    rw [hf]
    exact h i z _ hz hui
theorem norm_norm (z x : Value) : norm1 z (norm1 z x) = norm1 z x := by
  unfold norm1
  split
  · rfl
  · rfl
  · rfl
  · rename_i f ys; show Value.func (.yield 1) f (dels (.func (.yield 1) f (dels x).toArray)).toArray = _; simp [dels]
  · rfl
theorem setc_cells {z x : Value} {j : Nat} {us : List Value} (h0 : 0 < us.length) (hj : j + us.length ≤ z.cells.size) (hn : ∀ (k : Nat) z' u, ((z.cells.toList.drop j).take us.length)[k]? = some z' → us[k]? = some u → norm1 z' u = u) :
    cellsN z (setc z x j us) = spliceL (cellsN z x) j us := by
  cases z with
  | agg zs =>
    have e : (Value.agg zs) = .agg zs.toList.toArray := by simp
    have hlen : (cellsN (.agg zs) x).length = zs.size := cellsN_len _ _
    have hj : j + us.length ≤ zs.size := hj
    show cellsN (.agg zs) (.agg (spliceL (cellsN (.agg zs) x) j us).toArray) = _
    rw [e]
    rw [e] at hlen
    refine cells_fix (by rw [length_splice]; simpa using hlen) fun k z' u hz hu => ?_
    rw [splice_get _ _ _ (by rw [hlen]; exact hj)] at hu
    split at hu
    · rename_i hk
      refine hn (k - j) z' u ?_ hu
      rw [List.getElem?_take, if_pos (by omega), List.getElem?_drop, show j + (k - j) = k by omega]
      exact hz
    · have hu : (zs.toList.zipIdx.map fun p => norm1 p.1 (fld x p.2))[k]? = some u := hu
      rw [List.getElem?_map, List.getElem?_zipIdx, hz] at hu
      simp only [Option.map_some, Option.some.injEq] at hu
      subst hu
      exact norm_norm _ _
  | _ =>
    all_goals
      have hj : j + us.length ≤ 1 := hj
      have e0 : j = 0 := by omega
      subst e0
      match us, h0, hj, hn with
      | [u], _, _, hn =>
        have := hn 0 _ u rfl rfl
        show [norm1 _ u] = [u]
        rw [this]
theorem flat_set {z : Value} {us : List Value} {j : Nat} (h0 : 0 < us.length) (hj : j + us.length ≤ z.cells.size) (hn : ∀ (k : Nat) z' u, ((z.cells.toList.drop j).take us.length)[k]? = some z' → us[k]? = some u → norm1 z' u = u) :
    ∀ (xs : List Value) (i : Nat), i < xs.length → flatN z (xs.set i (setc z (xs.getD i z) j us)) = spliceL (flatN z xs) (i * z.cells.size + j) us
  | [], i, h => by simp at h
  | x :: xs, 0, _ => by
    show flatN z (setc z x j us :: xs) = _
    rw [flatN_cons, flatN_cons, setc_cells h0 hj hn, Nat.zero_mul, Nat.zero_add, splice_left _ _ _ _ (by rw [cellsN_len]; exact hj)]
  | x :: xs, i + 1, h => by
    show flatN z (x :: xs.set i (setc z (xs.getD i z) j us)) = _
    have e : (i + 1) * z.cells.size + j = (cellsN z x).length + (i * z.cells.size + j) := by rw [cellsN_len, Nat.succ_mul]; omega
    rw [flatN_cons, flatN_cons, flat_set h0 hj hn xs i (by simpa using h), e, splice_right]

theorem rawCell_one {deep : Value → Value → Option (List Value)} {z c x : Value} (h : rawCell deep z c = some x) : x.oneCell' = true := by
  have h1 := norm_raw h
  rw [← h1]
  unfold norm1
  split <;> first | rfl | skip
  split
  · rename_i hp
    clear h1 h
    rename_i h1 h2 h3 h4
    cases z <;> first | rfl | (simp [plain1] at hp)
  · rfl
theorem rawCells_one {deep : Value → Value → Option (List Value)} : ∀ {zs cs xs r : List Value}, rawCells deep zs cs = some (xs, r) → xs.all Value.oneCell' = true
  | [], cs, xs, r, h => by
    simp only [rawCells, Option.some.injEq, Prod.mk.injEq] at h
    obtain ⟨rfl, _⟩ := h; rfl
  | z :: zs, [], xs, r, h => by simp [rawCells] at h
  | z :: zs, c :: cs, xs, r, h => by
    unfold rawCells at h
    split at h
    · rename_i x hx
      split at h
      · rename_i xs' r' hxs
        simp only [Option.some.injEq, Prod.mk.injEq] at h
        obtain ⟨rfl, _⟩ := h
        rw [List.all_cons, rawCell_one hx, rawCells_one hxs]; rfl
      · cases h
    · cases h

theorem emptyV_ok {z s s' : Value} (h : emptyV z s = true) (hv : VR μ s s') : ∃ a, s' = .slice a 0 0 := by
  unfold emptyV at h
  split at h
  · exact ⟨none, hv.eq_of_plain rfl⟩
  · rename_i f xs
    split at h
    · rename_i z0 b hf hx
      have hf : f = #[z0, .slice none b 1] := by rw [← Array.toList_inj, hf]
      have hx : xs = #[] := by rw [← Array.toList_inj, hx]
      subst hf; subst hx
      have h0 := hv.zero_of_basic rfl
      generalize hg : Value.func (Fn.yield 5) #[z0, .slice none b 1] #[] = d at h0
      cases h0 with
      | osl hd h1 h2 =>
        simp [Abs.osq] at hg; obtain ⟨⟨rfl, rfl, hq⟩, h3⟩ := hg; subst h3
        rcases h2 with h2 | ⟨h2, _⟩
        · simp at h1; subst h1; subst h2; exact ⟨_, rfl⟩
        · rw [← hq] at h2; cases h2
      | plain hp => subst hg; simp [plain1] at hp
      | mark _ _ => simp [mk] at hg
      | deep _ => simp [dsl] at hg
      | fptr _ _ _ => simp [Abs.fptr] at hg
      | rptr _ => simp [Abs.rptr] at hg
      | mbool => simp [mkb] at hg
      | _ => cases hg
    · cases h
  · cases h

/-- A row made by append. -/
theorem appendV_run {argTypes : Array TypeId} {ty st xt e : TypeId} {args : Array Value} {i : TypeInfo} {z0 z x' : Value} {ys : List Value} {h : Hp} {news : Array Value} {bs : Option Addr}
    (h0 : argTypes[0]? = some st) (h1' : argTypes[1]? = some xt) (ha0 : args[0]? = some (.slice bs 0 0)) (ha1 : args[1]? = some x') (hu : P.underlying st = some (.slice e)) (hi : P.info? e = some i) (hiz : i.zero = some z0)
    (hsz : 0 < i.size) (hz0 : z0.cells.size = i.size) (hz : z.cells.size = i.size) (hby : 0 < i.bytes) (hr : Rel μ base h.get w)
    (src : Src P w e i.size z0 xt x' ys.length news) (hns : news.size = ys.length * i.size) (hnews : ∀ (i : Nat) y, (flatN z ys)[i]? = some y → ∃ v', news[i]? = some v' ∧ DR μ.z y v')
    (hob : ys.length * i.bytes ≤ 140737488355328) :
    (ys.length = 0 → (Builtin.append_ argTypes ty args).run P w = .ok (.slice bs 0 0) w) ∧
    (0 < ys.length → μ h.next = none → ∃ v' w' μ', (Builtin.append_ argTypes ty args).run P w = .ok v' w' ∧ Out μ base h w (mk (.slice (some ⟨h.next, 0, none⟩) ys.length (unk i.size))) (h.push (.row (.vals z ys) false)) v' w' μ') := by
  have h62 : 0 + ys.length ≤ 4611686018427387904 := by
    have := Nat.le_mul_of_pos_right ys.length hby
    omega
  obtain ⟨hrun1, hrun2⟩ := append_run (ty := ty) h0 h1' ha0 ha1 hu hi hiz hz0 hsz hob src
  refine ⟨fun hm => ?_, fun hm hfree => ?_⟩
  · have hrun := hrun1 (by omega)
    have hnil : news.toList = [] := by
      apply List.eq_nil_of_length_eq_zero
      rw [Array.length_toList, hns, hm]; simp
    rw [hrun]; unfold apRoom
    cases bs with
    | none => rw [hm]
    | some a => rw [hnil, hm]; rfl
  · have hfo : (Builtin.firstCells i.size 0 (.slice bs 0 0)).run P w.drew = .ok #[] w.drew := by
      cases bs with
      | none => exact run_firstCells_none _ _ _ _ _
      | some a => exact run_firstCells_some w.drew _ 0 a 0 0 [] (by simp) (by simp)
    have hrun := hrun2 (by omega) h62 (by rw [Nat.zero_add]; exact hob) #[] hfo
    have hgr := grow_drew_alloc w (.cells (#[] ++ news ++ Builtin.zeroCells z0.cells (grownCap w (0 + ys.length) 0 e - (0 + ys.length))) e)
    have hge := grownCap_ge w (0 + ys.length) 0 e
    have hns2 : (#[] ++ news ++ Builtin.zeroCells z0.cells (grownCap w (0 + ys.length) 0 e - (0 + ys.length))).size = grownCap w (0 + ys.length) 0 e * i.size := by
      rw [Array.size_append, Array.size_append, hns, size_zeroC, hz0]
      show 0 + ys.length * i.size + _ = _
      rw [Nat.zero_add, ← Nat.add_mul]
      congr 1; omega
    generalize hcp : grownCap w (0 + ys.length) 0 e = cp at hge hns2 hgr hrun
    generalize harr : #[] ++ news ++ Builtin.zeroCells z0.cells (cp - (0 + ys.length)) = arr at hns2 hgr
    have hres : (Builtin.append_ argTypes ty args).run P w = .ok (.slice (some ⟨w.heap.size, 0, none⟩) (0 + ys.length) cp) (w.drew.alloc (.cells arr e)) := by
      rw [hrun]; unfold apGrow; rw [hcp, harr]
    have hle := Mu.le_upd (p := ⟨w.heap.size, 0, arr.size⟩) hfree
    have hnew := sim_new (x := .row (.vals z ys) false) (p := ⟨w.heap.size, 0, arr.size⟩) hr hgr hfree rfl
      ⟨arr, e, (0, 0), hgr.new, rfl, fun j v hv => by
        have hv : (flatN z ys)[j]? = some v := hv
        obtain ⟨v', h3, h4⟩ := hnews j v hv
        have hlt := (List.getElem?_eq_some_iff.1 hv).1
        rw [flatN_len, hz] at hlt
        refine ⟨v', ?_, .zero (dr_vr (h4.mono hle.z))⟩
        show arr[0 + j]? = _
        rw [Nat.zero_add, ← harr, Array.append_assoc, Array.getElem?_append_right (by simp), Array.size_empty, Nat.sub_zero, Array.getElem?_append_left (by rw [hns]; exact hlt)]
        exact h3, fun _ => ⟨hr.size, fun i _ => by simp, fun _ => rfl⟩⟩
    refine ⟨_, _, Mu.upd μ h.next ⟨w.heap.size, 0, arr.size⟩, hres, ⟨?_, by rw [get_push_fun]; exact hnew, by simp, dom_upd (by simp), Keeps.push _ _ _⟩⟩
    rw [Nat.zero_add]
    have hsl : VR0 (Mu.upd μ h.next ⟨w.heap.size, 0, arr.size⟩) (.slice (some ⟨h.next, 0, none⟩) ys.length (unk i.size)) (.slice (some ⟨w.heap.size, 0, none⟩) ys.length cp) := by
      have hk : UNK0 ≤ unk i.size := by unfold UNK0 unk; omega
      have hk2 : unk i.size - UNK0 = i.size := by unfold UNK0 unk; omega
      exact VR0.slice (p := ⟨w.heap.size, 0, arr.size⟩) (Mu.upd_same _ _ _) (by omega) (.inl ⟨hk, by rw [hk2]; show 0 + 0 + cp * i.size ≤ arr.size; rw [hns2]; omega⟩)
    exact .zero (.mark hsl rfl)

theorem rawCells_len {deep : Value → Value → Option (List Value)} : ∀ {zs cs xs r : List Value}, rawCells deep zs cs = some (xs, r) → xs.length = zs.length
  | [], cs, xs, r, h => by
    simp only [rawCells, Option.some.injEq, Prod.mk.injEq] at h
    obtain ⟨rfl, _⟩ := h; rfl
  | z :: zs, [], xs, r, h => by simp [rawCells] at h
  | z :: zs, c :: cs, xs, r, h => by
    unfold rawCells at h
    split at h
    · split at h
      · rename_i hxs
        simp only [Option.some.injEq, Prod.mk.injEq] at h
        obtain ⟨rfl, _⟩ := h
        rw [List.length_cons, List.length_cons, rawCells_len hxs]
      · cases h
    · cases h
theorem rawCell_src {deep : Value → Value → Option (List Value)} (h1 : ∀ {z v xs}, deep z v = some xs → v.oneCell' = true) {z v x : Value} (h : rawCell deep z v = some x) : v.oneCell' = true := by
  unfold rawCell at h
  split at h
  · split at h
    · rename_i hden
      rcases den_cases v with e | ⟨u, rfl, _, _⟩
      · rw [e] at hden; rw [hden]; rfl
      · rfl
    · cases h
  · split at h
    · rename_i hden
      rcases den_cases v with e | ⟨u, rfl, _, _⟩
      · rw [e] at hden; rw [hden]; rfl
      · rfl
    · cases h
  · split at h <;> first | rfl | cases h
  · split at h
    · rename_i z' _
      cases e : deep z' v with
      | none => rw [e] at h; cases h
      | some ys => exact h1 e
    · cases h
  · split at h
    · rename_i hp
      simp only [Bool.and_eq_true] at hp
      have := vbeq1_eq hp.2
      rw [← this]
      have hp1 := hp.1
      clear h hp this
      cases z <;> first | rfl | (simp [plain1] at hp1)
    · cases h
theorem rawCells_src {deep : Value → Value → Option (List Value)} (h1 : ∀ {z v xs}, deep z v = some xs → v.oneCell' = true) {zs : List Value} {v u : Value} {r : List Value} (h : rawCells deep zs [v] = some ([u], r)) : v.oneCell' = true := by
  match zs, h with
  | [], h => simp [rawCells] at h
  | z :: zs, h =>
    unfold rawCells at h
    split at h
    · rename_i x hx
      exact rawCell_src h1 hx
    · cases h
theorem symVE_ok {o : Oper} {st : St} {alts : List Alt} (e : symVE std P (evA st.tmps) o st.h = some alts) : AltsOk alts fun a => StepS P o st a.v a.h := by
  unfold symVE at e
  split at e
  · rename_i t a x ho
    split at e
    case h_2 => cases e
    rename_i b e0 i j n hd hn
    split at e
    case h_2 => cases e
    rename_i z xs hb
    split at e
    case isFalse => cases e
    rename_i he
    subst he
    split at e
    case h_2 => cases e
    rename_i us hraw
    split at e
    case isFalse => cases e
    rename_i hc
    simp only [Option.some.injEq] at e; subst e
    refine ⟨⟨_, List.mem_singleton.2 rfl, trivial⟩, fun y hy _ hob => ?_⟩
    rw [List.mem_singleton.1 hy] at hob ⊢
    have hob : i < xs.length := hob
    obtain ⟨rfl, hpos⟩ := hc
    have hbn := Hp.lt_of_get hb
    have hjn : j + us.length ≤ z.cells.size := by
      have h3 : us.length = ((z.cells.toList.drop j).take us.length).length := rawCells_len hraw
      simp only [List.length_take, List.length_drop, Array.length_toList] at h3
      omega
    refine .E (by unfold isEff; rw [ho]; rfl) (Nat.le_refl _) fun {μ base w act K Q} hr hrel hf hK => ?_
    have hx := hr x (by rw [ho]; simp [Op.operands])
    obtain ⟨p, hp, hs, hdv⟩ := rptr_inv hd (hr a (by rw [ho]; simp [Op.operands]))
    obtain ⟨used, hu1, hu2, hu3, hu4, hu5⟩ := rawCells_ok (fz := μ.z) (fun h1 h2 => deepH_ok hrel h1 h2) hraw
    rw [List.append_nil] at hu1
    -- the value as raw data
    have hux : ∃ u : Value, u.cells.toList = us ∧ VR μ u (act.eval x) := by
      have hcell : ∀ (k : Nat) y c, us[k]? = some y → used[k]? = some c → ∀ v', VR1 μ c v' → VR1 μ y v' := fun k y c hy hcc v' hv => .zero (dr_vr (hu5 k y c v' hy hcc hv))
      cases hxx : evA st.tmps x with
      | agg cs =>
        rw [hxx] at hx hu1
        obtain ⟨ys, hy, hys⟩ := hx.inv_agg
        refine ⟨.agg us.toArray, by simp [Value.cells], ?_⟩
        rw [hy]
        refine .agg ⟨by show us.length = _; rw [← hu2, ← hu1]; exact hys.1, fun k y hk => ?_⟩
        have hk : us[k]? = some y := by simpa using hk
        have hlt := (List.getElem?_eq_some_iff.1 hk).1
        have hcc := List.getElem?_eq_getElem (l := used) (i := k) (by omega)
        obtain ⟨v', h6, h7⟩ := hys.2 k _ (by rw [show cs.toList = used from hu1]; exact hcc)
        exact ⟨v', h6, hcell k y _ hk hcc v' h7⟩
      | _ =>
        all_goals
          rw [hxx] at hraw hx hu1
          have hone := hu1.symm
          change used = [_] at hone
          have hul : us.length = 1 := by rw [← hu2, hone]; rfl
          match us, hul with
          | [u], _ =>
            have hvo := rawCells_src deepV_one hraw
            have hv1 := hx.one_of_oneCell hvo
            have h8 := hu5 0 u _ _ rfl (by rw [hone]; rfl) hv1
            have huo : u.oneCell' = true := by have := rawCells_one hraw; simpa using this
            refine ⟨u, ?_, .zero (dr_vr h8)⟩
            cases u <;> first | rfl | (simp [Value.oneCell'] at huo)
    obtain ⟨u, hu6, hu7⟩ := hux
    have hg : st.h.view.get b = some (.cells (flatN z xs) false) := by rw [st.h.get_view, hb]; simp only [Option.map_some, view_row, row_den]; rfl
    have hst : storeA P t (.pointer (some ⟨b, i * z.cells.size + j, none⟩)) u st.h.view = some (st.h.view.put b (some (.cells (spliceL (flatN z xs) (i * z.cells.size + j) us) false))) := by
      unfold storeA
      simp only [hn, hg]
      rw [if_pos ⟨by rw [← Array.length_toList, hu6], by
        rw [flatN_len]
        have : (i + 1) * z.cells.size ≤ xs.length * z.cells.size := Nat.mul_le_mul_right _ hob
        rw [Nat.succ_mul] at this
        omega, by rw [hu6]; exact rawCells_one hraw⟩, hu6]
    have hpa : VR μ (.pointer (some ⟨b, i * z.cells.size + j, none⟩)) (act.eval a) := by
      have : act.eval a = .pointer (some ⟨p.c, i * z.cells.size + j + p.s, none⟩) := by rw [hs]; congr 3; omega
      rw [this]
      exact .zero (.ptr hp)
    obtain ⟨w', h6, h7, h8, h9⟩ := storeA_run hst hrel.ofView hpa hu7
    have hsim : Sim μ base st.h.get w μ (st.h.put b (some (.row (.vals z (xs.set i (setc z (xs.getD i z) j us))) false))).get w' := by
      refine Sim.unview (fun c => ?_) h7
      rw [Hp.get_put _ _ _ _ (by exact hbn), Hp.get_put _ _ _ _ hbn]
      split
      · simp only [Option.map_some, view_row, row_den]
        show some (Blk.cells _ false) = some (Blk.cells (flatN z (xs.set i (setc z (xs.getD i z) j us))) false)
        rw [flat_set hpos hjn (fun k z' u' h1 h2 => hu4 k z' u' h1 h2) xs i hob]
      · exact st.h.get_view c
    unfold Oper.wp
    have hex : (execOp act.eval o).run P w = .ok .skip w' := by
      obtain ⟨dst, op, ty, pos, after, guard⟩ := o
      simp only at ho; subst ho
      simp only [execOp, Sem.run_bind, h6, Result.andThen_ok, Sem.run_pure]
    rw [hex]
    exact hK _ w' μ (Out.same (.undef μ) hsim rfl (Keeps.put hp hbn))
  · rename_i args argTypes ho
    split at e
    case h_2 => cases e
    rename_i st' xt sx xx ht ha
    split at e
    case h_2 => cases e
    rename_i el hu
    split at e
    case h_2 => cases e
    rename_i i z0 z hi hz0 hzd
    split at e
    case isFalse => cases e
    rename_i hc
    obtain ⟨c1, c2, c3, c4, c5⟩ := hc
    split at e
    case h_2 => cases e
    rename_i ys hsrc
    simp only [Option.some.injEq] at e; subst e
    have hiz : i.zero = some z0 := by
      unfold zeroA at hz0
      simp only [hi] at hz0
      split at hz0
      · rename_i z1 hz1
        split at hz0
        · simp at hz0; subst hz0; exact hz1
        · cases hz0
      · cases hz0
    have run : ys.length * i.bytes ≤ 140737488355328 → ∀ {μ : Mu} {base : Nat} {w : World} {a : Act}, OpR μ (evA st.tmps) a.eval o.op.operands.toList → Rel μ base st.h.get w → ∃ bs, a.eval sx = .slice bs 0 0 ∧
        (ys.length = 0 → (execOp a.eval o).run P w = .ok (.value (.slice bs 0 0)) w) ∧
        (0 < ys.length → μ st.h.next = none → ∃ v' w' μ', (execOp a.eval o).run P w = .ok (.value v') w' ∧ Out μ base st.h w (mk (.slice (some ⟨st.h.next, 0, none⟩) ys.length (unk i.size))) (st.h.push (.row (.vals z ys) false)) v' w' μ') := by
      intro hob μ base w a hr hrel
      have hsv := hr sx (by rw [ho]; simp [Op.operands, Call.operands, ha])
      have hxv := hr xx (by rw [ho]; simp [Op.operands, Call.operands, ha])
      obtain ⟨bs, hbs⟩ := emptyV_ok c5 hsv
      obtain ⟨news, hsr, hns, hnews⟩ := srcD_ok (zz := z0) (e := el) hsrc hrel hxv
      rw [c3] at hsr hns
      have hargs : (args.map a.eval).toList = [a.eval sx, a.eval xx] := by rw [Array.toList_map, ha]; rfl
      have h0 : argTypes[0]? = some st' := by rw [← Array.getElem?_toList, ht]; rfl
      have h1' : argTypes[1]? = some xt := by rw [← Array.getElem?_toList, ht]; rfl
      have ha0 : (args.map a.eval)[0]? = some (.slice bs 0 0) := by rw [← Array.getElem?_toList, hargs, hbs]; rfl
      have ha1 : (args.map a.eval)[1]? = some (a.eval xx) := by rw [← Array.getElem?_toList, hargs]; rfl
      obtain ⟨r1, r2⟩ := appendV_run (ty := o.type) h0 h1' ha0 ha1 hu hi hiz c1 c2 c3 c4 hrel hsr hns hnews hob
      refine ⟨bs, hbs, fun hm => ?_, fun hm hf => ?_⟩
      · have hrun := r1 hm
        obtain ⟨dst, op, ty, pos, after, guard⟩ := o
        simp only at ho; subst ho
        simp only [execOp, resolve, invoke, builtin, Sem.run_bind, Sem.run_pure, Result.andThen_ok, hrun]
      · obtain ⟨v', w', μ', hrun, hout⟩ := r2 hm hf
        refine ⟨v', w', μ', ?_, hout⟩
        obtain ⟨dst, op, ty, pos, after, guard⟩ := o
        simp only at ho; subst ho
        simp only [execOp, resolve, invoke, builtin, Sem.run_bind, Sem.run_pure, Result.andThen_ok, hrun]
    have hE : isEff P o = true := by unfold isEff; rw [ho]; rfl
    have nb : std.nbeq (std.len ys) 0 = decide (ys.length = 0) := by
      show (ys.length == 0) = _
      by_cases h : ys.length = 0
      · rw [h]; rfl
      · rw [decide_eq_false h]; simpa using h
    refine ⟨?_, fun a ha hcond hob => ?_⟩
    · by_cases h : ys.length = 0
      · exact ⟨_, List.mem_cons_self, by show std.nbeq (std.len ys) 0 = true; rw [nb]; exact decide_eq_true h⟩
      · exact ⟨_, List.mem_cons_of_mem _ List.mem_cons_self, by show std.nbeq (std.len ys) 0 = false; rw [nb]; exact decide_eq_false h⟩
    · rcases List.mem_cons.1 ha with rfl | ha
      · have hm : ys.length = 0 := by have h : std.nbeq (std.len ys) 0 = true := hcond; rw [nb] at h; exact of_decide_eq_true h
        refine .E hE (Nat.le_refl _) fun {μ base w a K Q} hr hrel hf hK => ?_
        obtain ⟨bs, hbs, r1, _⟩ := run (by rw [hm]; omega) hr hrel
        unfold Oper.wp
        rw [r1 hm]
        refine hK _ w μ (Out.same ?_ (Sim.refl hrel) rfl (Keeps.refl _ _))
        rw [← hbs]
        exact hr sx (by rw [ho]; simp [Op.operands, Call.operands, *])
      · rw [List.mem_singleton.1 ha] at hcond hob ⊢
        have hm : 0 < ys.length := by have h : std.nbeq (std.len ys) 0 = false := hcond; rw [nb] at h; have := of_decide_eq_false h; omega
        have hob : ys.length * i.bytes ≤ 140737488355328 := hob
        refine .E hE (by simp) fun {μ base w a K Q} hr hrel hf hK => ?_
        obtain ⟨bs, hbs, _, r2⟩ := run hob hr hrel
        obtain ⟨v', w', μ', hrun, hout⟩ := r2 hm (hf _ (Nat.le_refl _) (by simp))
        unfold Oper.wp
        rw [hrun]
        exact hK v' w' μ' hout
  · cases e
theorem symTV_ok {o : Oper} {s : St} {alts : List Alt} (e : symTV std P (evA s.tmps) o s.h = some alts) : AltsOk alts fun a => StepS P o s a.v a.h := by
  unfold symTV at e
  split at e
  · rename_i l hl
    simp only [Option.some.injEq] at e; subst e
    obtain ⟨h1, h2⟩ := symVT_ok hl
    exact ⟨h2.1, fun a ha hc ho => .T h1 (h2.2 a ha hc ho).1 (h2.2 a ha hc ho).2⟩
  · obtain ⟨hk, h1, h2⟩ := symT_ok e
    exact ⟨h1, fun a ha hc ho => .T hk (h2 a ha hc ho).1 (h2 a ha hc ho).2⟩
theorem symMV_ok {ρ : Operand → Value} {o : Oper} {h : Hp} {alts : List Alt} (e : symMV std P ρ o h = some alts) : kindOf P o.op = .R ∧ AltsOk alts fun a => a.h = h ∧ SemR P ρ o h a.v := by
  unfold symMV at e
  split at e
  · rename_i l hl
    simp only [Option.some.injEq] at e; subst e
    exact symMR_ok hl
  · exact symVR_ok e
theorem symEV_ok {o : Oper} {st : St} {alts : List Alt} (e : symEV std P (evA st.tmps) o st.h = some alts) : AltsOk alts fun a => StepS P o st a.v a.h := by
  unfold symEV at e
  split at e
  · rename_i l hl
    simp only [Option.some.injEq] at e; subst e
    exact symME_ok hl
  · exact symVE_ok e
end
end Go.Abs
end
section
namespace Go.Abs
open Go

noncomputable section
variable (S : Sy)

inductive XR where
  | val (v : Value) (h : Hp)
  | alts (l : List Alt)

def stepX (P : Program) (o : Oper) (s : St) : Option XR :=
  if o.op.operands.toList.all okOperand then
    match kindOf P o.op with
    | .T => match stepT P (evA s.tmps) o with
      | some v => some (.val v s.h)
      | none => match symTV S P (evA s.tmps) o s.h with
        | some l => some (.alts l)
        | none => (symDT S P (evA s.tmps) o s.h).map .alts
    | .R => match stepR P (evA s.tmps) o s.h with
      | some v => some (.val v s.h)
      | none => match symR S P (evA s.tmps) o s.h with
        | some l => some (.alts l)
        | none => match symDR S P (evA s.tmps) o s.h with
          | some l => some (.alts l)
          | none => (symMV S P (evA s.tmps) o s.h).map .alts
    | .N => match symDN P (evA s.tmps) o with
      | some (b, f) => some (.val (f s.h.next) (s.h.push b))
      | none => match stepN P (evA s.tmps) o with
      | some (b, f) => some (.val (f s.h.next) (s.h.push b))
      | none => match symN S P (evA s.tmps) o with
        | some (b, f) => some (.val (f s.h.next) (s.h.push b))
        | none => (symM S P (evA s.tmps) o s.h).map .alts
    | .E => match stepE P (evA s.tmps) o s.h with
      | some (v, h) => some (.val v h)
      | none => match symE S P (evA s.tmps) o s.h with
        | some l => some (.alts l)
        | none => (symEV S P (evA s.tmps) o s.h).map .alts
    | _ => none
  else none

def condK (c : Option Prop) (X : Prop) : Prop := match c with | none => X | some c => c → X
def obK (c : Option Prop) (X : Prop) : Prop := match c with | none => X | some c => c ∧ X
def altsK : List Alt → (Value → Hp → Prop) → Prop
  | [], _ => True
  | a :: r, K => match r with
    | [] => condK a.cond (obK a.ob (K a.v a.h))
    | _ => condK a.cond (obK a.ob (K a.v a.h)) ∧ altsK r K
/-- Of two ways the one that is told. -/
def tellK (tl : Option Bool) (l : List Alt) (K : Value → Hp → Prop) : Prop :=
  match tl, l with
  | some true, [a, _] => obK a.cond (obK a.ob (K a.v a.h))
  | some false, [_, a] => obK a.cond (obK a.ob (K a.v a.h))
  | _, l => altsK l K
def XR.K (tl : Option Bool) (r : XR) (K : Value → Hp → Prop) : Prop :=
  match r with
  | .val v h => K v h
  | .alts l => tellK tl l K

abbrev CallV := FuncId → List Value → Hp → (Value → Hp → Prop) → Prop
abbrev LFun := List Value → Option Value
/-- Contracts. -/
structure Con where
  con : FuncId → Option (List Value → Hp → (Value → Hp → Prop) → Prop)
  told : Oper → (Operand → Value) → Option Bool
  draws : FuncId → Option (List Value → Hp → (Value → Hp → Prop) → Prop) := fun _ => none
  gen : Oper → Bool := fun _ => false
  pures : FuncId → Option LFun := fun _ => none
  rows : Oper → Bool := fun _ => false
instance : CoeFun Con (fun _ => FuncId → Option (List Value → Hp → (Value → Hp → Prop) → Prop)) := ⟨Con.con⟩
/-- What is told of comparisons: by the slot, the operation. -/
def Con.tell (C : Con) (l : List (Nat × BinOp × Bool)) : Con := { C with told := fun o _ => match o.op, o.dst with
  | .binOp op _ _ _ _, some d => (l.find? fun x => x.1 == d && x.2.1 == op).map (·.2.2)
  | _, _ => none }
/-- Operations whose number is given a letter of its own. -/
def Con.letters (C : Con) (f : Oper → Bool) : Con := { C with gen := f }
/-- What is told, in all words. -/
def Con.tellO (C : Con) (f : Oper → (Operand → Value) → Option Bool) : Con := { C with told := f }
/-- The same, told apart by whether there is a guard. -/
def Con.tellG (C : Con) (l : List (Nat × BinOp × Bool × Bool)) : Con := { C with told := fun o _ => match o.op, o.dst with
  | .binOp op _ _ _ _, some d => (l.find? fun x => x.1 == d && x.2.1 == op && x.2.2.1 == o.guard.isSome).map (·.2.2.2)
  | _, _ => none }

/-- A number that is not worked out is given a letter. -/
def genK (g : Bool) (v : Value) (K : Value → Prop) : Prop :=
  if g then
    if isMark v then match den v with
      | .int k e => ∀ x : Int, S.ieq x e → K (mk (.int k x))
      | _ => K v
    else K v
  else K v
/-- A bool that is not worked out: both ways. -/
def splitK (v : Value) (K : Value → Prop) : Prop :=
  match v with
  | .func (.yield 3) f _ => match f.toList with
    | [.bool b] => (b = true → K (.bool true)) ∧ (b = false → K (.bool false))
    | _ => K v
  | v => K v
/-- rr: operations of which rows are made as before. -/
def opsV (P : Program) (gn rr : Oper → Bool) (tl : Oper → (Operand → Value) → Option Bool) (call : CallV) (ops : Array Oper) : List Oper → St → (St → Prop) → Prop
  | [], s, K => K s
  | o :: rest, s, K =>
    if liveG ops o s.tmps then
      if wantedA ops o s.tmps then
        match kindOf P o.op with
        | .C => if o.op.operands.toList.all okOperand then match o.op with
            | .call c => match callee (evA s.tmps) c with
              | some (f, args) => call f args s.h fun v h => splitK v fun v => opsV P gn rr tl call ops rest ⟨s.put o.dst v, h⟩ K
              | none => S.no o (o.op.operands.toList.map (evA s.tmps))
            | _ => False
          else False
        | _ => match (if rr o then none else stepG S P (evA s.tmps) o s.h) with
          | some l => altsK l fun v h => opsV P gn rr tl call ops rest ⟨s.put o.dst v, h⟩ K
          | none => match stepX S P o s with
            | some r => r.K (tl o (evA s.tmps)) fun v h => genK S (gn o) v fun v => splitK v fun v => opsV P gn rr tl call ops rest ⟨s.put o.dst v, h⟩ K
            | none => S.no o (o.op.operands.toList.map (evA s.tmps))
      else opsV P gn rr tl call ops rest ⟨s.put o.dst undef, s.h⟩ K
    else False

/-- A call inside a region whose order is open, by a contract. -/
def drawCall (D : FuncId → Option (List Value → Hp → (Value → Hp → Prop) → Prop)) (o : Oper) (s : St) : Option ((Value → Hp → Prop) → Prop) :=
  if o.op.operands.toList.all okOperand then match o.op with
    | .call c => match callee (evA s.tmps) c with
      | some (f, args) => (D f).map fun g => g args s.h
      | none => none
    | _ => none
  else none

/-- A call that leaves the heap as it is. -/
def pureCall (D : FuncId → Option LFun) (o : Oper) (s : St) : Option Value :=
  if o.op.operands.toList.all okOperand then match o.op with
    | .call c => match callee (evA s.tmps) c with
      | some (f, args) => match D f with
        | some g => g args
        | none => none
      | none => none
    | _ => none
  else none

/-- A region whose order is open: the states ahead of each operation, and the values. -/
def drawV (P : Program) (gn rr : Oper → Bool) (tl : Oper → (Operand → Value) → Option Bool) (pu : FuncId → Option LFun) (D : FuncId → Option (List Value → Hp → (Value → Hp → Prop) → Prop)) (call : Caller) (ops : Array Oper) : List Oper → St → (List St → List Value → Prop) → Prop
  | [], s, K => K [s] []
  | o :: rest, s, K =>
    if liveG ops o s.tmps then
      if wantedA ops o s.tmps then
        match kindOf P o.op with
        | .C => match pureCall pu o s with
          | some v => splitK v fun v => drawV P gn rr tl pu D call ops rest ⟨s.put o.dst v, s.h⟩ fun tr vs => K (s :: tr) (v :: vs)
          | none => match drawCall D o s with
            | some g => g fun v h => splitK v fun v => drawV P gn rr tl pu D call ops rest ⟨s.put o.dst v, h⟩ fun tr vs => K (s :: tr) (v :: vs)
            | none => match stepO P call o s with
              | some (v, h) => drawV P gn rr tl pu D call ops rest ⟨s.put o.dst v, h⟩ fun tr vs => K (s :: tr) (v :: vs)
              | none => False
        | _ => match (if rr o || !isEff P o then none else stepG S P (evA s.tmps) o s.h) with
          | some l => altsK l fun v h => drawV P gn rr tl pu D call ops rest ⟨s.put o.dst v, h⟩ fun tr vs => K (s :: tr) (v :: vs)
          | none => match stepX S P o s with
          | some r => r.K (tl o (evA s.tmps)) fun v h => genK S (gn o) v fun v => splitK v fun v => drawV P gn rr tl pu D call ops rest ⟨s.put o.dst v, h⟩ fun tr vs => K (s :: tr) (v :: vs)
          | none => S.no o (o.op.operands.toList.map (evA s.tmps))
      else drawV P gn rr tl pu D call ops rest ⟨s.put o.dst undef, s.h⟩ fun tr vs => K (s :: tr) (undef :: vs)
    else False

/-- A read, of a map whose entries are not known too. -/
def readM (P : Program) (ρ : Operand → Value) (o : Oper) (h : Hp) : Option Value :=
  match stepR P ρ o h with
  | some v => some v
  | none => match symMR S P ρ o h with
    | some [⟨none, none, v, _⟩] => some v
    | _ => none
/-- A value read, a truth value of it that was told apart too. -/
def likeM (u v : Value) : Prop :=
  match v with
  | .bool c => match u with
    | .func (.yield 3) f x => match f.toList, x.toList with
      | [.bool b], [] => b = c
      | _, _ => False
    | u => some u = some (.bool c)
  | v => some u = some v
def sameM (r : Option Value) (v : Value) : Prop :=
  match r with
  | some u => likeM u v
  | none => False
/-- What is read ahead of and behind an effect that is not in an order with the read. -/
def pairP (P : Program) (ops : Array Oper) (tr : List St) (vs : List Value) (p : Nat × Nat) : Prop :=
  match ops[p.1]?, tr[p.1]?, tr[p.2]?, tr[p.2 + 1]?, vs[p.1]? with
  | some o, some si, some sj, some sk, some v =>
    if wantedA ops o si.tmps then sameM (readM S P (evA si.tmps) o sj.h) v ∧ sameM (readM S P (evA si.tmps) o sk.h) v else True
  | _, _, _, _, _ => False
/-- An operation behind which the heap is as it was. -/
def quietAt (P : Program) (pu : FuncId → Option LFun) (ops : Array Oper) (tr : List St) (k : Nat) : Bool :=
  match ops[k]?, tr[k]? with
  | some o, some s => !wantedA ops o s.tmps || (match kindOf P o.op with | .T => true | .R => true | .C => (pureCall pu o s).isSome | _ => false)
  | _, _ => false
def spanB (f : Nat → Bool) : Nat → Nat → Bool
  | _, 0 => true
  | a, n + 1 => f a && spanB f (a + 1) n
def quietB (P : Program) (pu : FuncId → Option LFun) (ops : Array Oper) (tr : List St) (p : Nat × Nat) : Bool :=
  if p.1 ≤ p.2 then spanB (quietAt P pu ops tr) p.1 (p.2 - p.1 + 1) else spanB (quietAt P pu ops tr) p.2 (p.1 - p.2)
/-- It is seen at once. -/
def pairB (P : Program) (ops : Array Oper) (tr : List St) (vs : List Value) (p : Nat × Nat) : Bool :=
  match ops[p.1]?, tr[p.1]?, tr[p.2]?, tr[p.2 + 1]?, vs[p.1]? with
  | some o, some si, some sj, some sk, some v =>
    !wantedA ops o si.tmps || ((match readM S P (evA si.tmps) o sj.h with | some u => vbeq u v | none => false) && (match readM S P (evA si.tmps) o sk.h with | some u => vbeq u v | none => false))
  | _, _, _, _, _ => false
/-- A read of immutable data: of every heap the same. -/
def deepR (P : Program) (o : Oper) (s : St) : Bool :=
  match kindOf P o.op with
  | .R => match stepR P (evA s.tmps) o s.h, symR std P (evA s.tmps) o s.h with
    | none, none => (symDR std P (evA s.tmps) o s.h).isSome
    | _, _ => false
  | _ => false
def deepAt (P : Program) (ops : Array Oper) (tr : List St) (k : Nat) : Bool :=
  match ops[k]?, tr[k]? with
  | some o, some s => deepR P o s
  | _, _ => false
def pairsP (P : Program) (pu : FuncId → Option LFun) (ops : Array Oper) (tr : List St) (vs : List Value) : List (Nat × Nat) → Prop → Prop
  | [], X => X
  | p :: r, X => if pairB S P ops tr vs p then pairsP P pu ops tr vs r X else if quietB P pu ops tr p || deepAt P ops tr p.1 then pairsP P pu ops tr vs r X else pairP S P ops tr vs p ∧ pairsP P pu ops tr vs r X

/-- A loop that is told: its shape at the head of a round; data, what holds of them, what falls. -/
structure LSpec where
  D : Type
  sh : Shape
  rho : St → Rho
  fills : D → List Filler
  I : D → Prop
  m : D → Nat
  /-- What stays through all rounds. -/
  gh : Option (D → List Value) := none
def ghR (L : LSpec) (d : L.D) (L' : LSpec) (d' : L'.D) : Prop :=
  match L.gh, L'.gh with
  | some f, some g => g d' = f d
  | _, _ => True
def ghP (L : LSpec) (d : L.D) (L' : LSpec) (d' : L'.D) (X : Prop) : Prop :=
  match L.gh, L'.gh with
  | some f, some g => g d' = f d → X
  | _, _ => X
def ghC (L : LSpec) (d : L.D) (L' : LSpec) (d' : L'.D) (X : Prop) : Prop :=
  match L.gh, L'.gh with
  | some f, some g => g d' = f d ∧ X
  | _, _ => X
theorem ghR_refl (L : LSpec) (d : L.D) : ghR L d L d := by
  unfold ghR
  split
  · rename_i h1 h2; rw [h1] at h2; cases h2; rfl
  · trivial
theorem ghP_get {L : LSpec} {d : L.D} {L' : LSpec} {d' : L'.D} {X : Prop} (h : ghP L d L' d' X) (hr : ghR L d L' d') : X := by
  unfold ghP at h
  unfold ghR at hr
  split at h
  · rename_i h1 h2
    rw [h1, h2] at hr
    exact h hr
  · exact h
theorem ghC_get {L : LSpec} {d : L.D} {L' : LSpec} {d' : L'.D} {X : Prop} (h : ghC L d L' d' X) : ghR L d L' d' ∧ X := by
  unfold ghC at h
  unfold ghR
  split at h
  · exact h
  · exact ⟨trivial, h⟩

/-- The first k blocks are those they were. -/
def headOk (k : Nat) (ρ : Rho) : Bool := decide (k ≤ ρ.length) && (List.range k).all fun i => ρ[i]? == some i
def nodupB : List Nat → Bool
  | [] => true
  | x :: l => !l.contains x && nodupB l

def enter (L : LSpec) (k : Nat) (s : St) (K : L.D → Prop) : Prop :=
  match L.sh.mat false (L.rho s) s with
  | some fs => if headOk k (L.rho s) && nodupB (L.rho s) then ∃ d, L.fills d = fs ∧ K d else False
  | none => False

def resK (P : Program) (fn : Func) (K : Value → Hp → Prop) (ex : Ex) (s : St) : Prop :=
  match ex with
  | .normal | .ret => match resultsA P fn s with
    | some v => K v s.h
    | none => False
  | _ => False

/-- Of several shapes the first that is met. -/
def enters (k : Nat) (s : St) (K : (L : LSpec) → L.D → Prop) : List LSpec → Prop
  | [] => False
  | L :: r => match L.sh.mat false (L.rho s) s with
    | some _ => enter L k s (K L)
    | none => enters k s K r
def eachL (F : LSpec → Prop) : List LSpec → Prop
  | [] => True
  | L :: r => match r with
    | [] => F L
    | _ => F L ∧ eachL F r

abbrev Loops := Nat → Option (List LSpec)
def noLoops : Loops := fun _ => none

def callWithV (P : Program) (C : Con) (rc : Nat → Code → St → (Ex → St → Prop) → Prop) : CallV := fun f args h K =>
  match C f with
  | some g => g args h K
  | none => match P.funcs[f]? with
    | none => False
    | some fn => match fn.body with
      | none => match externA fn.name fn.origin args h with
        | some (v, h') => K v h'
        | none => False
      | some c => rc h.next c ⟨args ++ List.replicate (fn.ntmps - args.length) undef, h⟩ (resK P fn K)

/-- Code, with so much fuel; k: the blocks that are protected. -/
def runV (P : Program) (C : Con) (call : Caller) : Nat → Loops → Nat → Code → St → (Ex → St → Prop) → Prop
  | 0, _, _, _, _, _ => False
  | n + 1, LS, k, c, s, K =>
    match c with
    | .skip => K .normal s
    | .label _ => K .normal s
    | .ret => K .ret s
    | .exit id => K (.exit id) s
    | .goto l => K (.goto l) s
    | .region _ ops draw =>
      if draw then
        if staticOk P ops then drawV S P C.gen C.rows C.told C.pures C.draws call ops ops.toList s fun tr vs => pairsP S P C.pures ops tr vs (drawPairs P ops) (match tr[ops.size]? with | some s' => K .normal s' | none => False)
        else False
      else opsV S P C.gen C.rows C.told (callWithV P C (runV P C call n noLoops)) ops ops.toList s fun s' => K .normal s'
    | .seq a b => runV P C call n LS k a s fun ex s1 => match ex with
      | .normal => runV P C call n LS k b s1 K
      | .exit id => K (.exit id) s1
      | .goto l => K (.goto l) s1
      | .ret => K .ret s1
    | .cond c a b => if okOperand c then match condA (evA s.tmps c) with
        | some t => runV P C call n LS k (if t then a else b) s K
        | none => False
      else False
    | .block id b => match LS id, b with
      | some Ls, .loop b => enters k s (fun L0 d0 => L0.I d0 ∧ eachL (fun L => ∀ d, L.I d → ghP L0 d0 L d (match L.sh.fill (L.fills d) with
          | some s0 => runV P C call n LS k b s0 fun ex s1 => match ex with
            | .normal => enters k s1 (fun L' d' => L'.m d' < L.m d ∧ ghC L0 d0 L' d' (L'.I d')) Ls
            | .exit id' => if id' = id then K .normal s1 else K (.exit id') s1
            | .goto l => K (.goto l) s1
            | .ret => K .ret s1
          | none => False)) Ls) Ls
      | _, b => runV P C call n LS k b s fun ex s1 => match ex with
        | .exit id' => if id' = id then K .normal s1 else K (.exit id') s1
        | .normal => K .normal s1
        | .goto l => K (.goto l) s1
        | .ret => K .ret s1
    | .loop b => runV P C call n LS k b s fun ex s1 => match ex with
      | .normal => runV P C call n LS k (.loop b) s1 K
      | .exit id => K (.exit id) s1
      | .goto l => K (.goto l) s1
      | .ret => K .ret s1
    | .scope b => runV P C call n LS k b s fun ex s1 => match ex with
      | .goto l => match findLabel b l with
        | some rest => runV P C call n LS k rest s1 fun ex s2 => match ex with
          | .goto _ => False
          | ex => K ex s2
        | none => False
      | ex => K ex s1
    | _ => False
end

section
variable {P : Program}

theorem symT_step {o : Oper} {s : St} {alts : List Alt} (e : symT std P (evA s.tmps) o s.h = some alts) : AltsOk alts fun a => StepS P o s a.v a.h := by
  obtain ⟨hk, h1, h2⟩ := symT_ok e
  exact ⟨h1, fun a ha hc ho => .T hk (h2 a ha hc ho).1 (h2 a ha hc ho).2⟩
theorem symR_step {o : Oper} {s : St} {alts : List Alt} (e : symR std P (evA s.tmps) o s.h = some alts) : AltsOk alts fun a => StepS P o s a.v a.h := by
  obtain ⟨hk, h1, h2⟩ := symR_ok e
  exact ⟨h1, fun a ha hc ho => .R hk (h2 a ha hc ho).1 (h2 a ha hc ho).2⟩

theorem altsK_ok {G : Alt → Prop} : ∀ {l : List Alt} {K : Value → Hp → Prop}, altsK l K → (∃ a ∈ l, holds a.cond) → (∀ a ∈ l, holds a.cond → holds a.ob → G a) → ∃ a, G a ∧ K a.v a.h
  | [], K, _, h, _ => by obtain ⟨a, ha, _⟩ := h; cases ha
  | a :: r, K, hk, h, hg => by
    have one : condK a.cond (obK a.ob (K a.v a.h)) → holds a.cond → ∃ a, G a ∧ K a.v a.h := by
      intro h1 hc
      have h2 : obK a.ob (K a.v a.h) := by
        unfold condK at h1
        split at h1
        · exact h1
        · rename_i c hcc; rw [hcc] at hc; exact h1 hc
      have h3 : holds a.ob ∧ K a.v a.h := by
        unfold obK at h2
        split at h2
        · rename_i ho; rw [ho]; exact ⟨trivial, h2⟩
        · rename_i ho; rw [ho]; exact h2
      exact ⟨a, hg a List.mem_cons_self hc h3.1, h3.2⟩
    obtain ⟨b, hb, hc⟩ := h
    unfold altsK at hk
    split at hk
    · rw [List.mem_singleton.1 hb] at hc
      exact one hk hc
    · rcases List.mem_cons.1 hb with rfl | hb
      · exact one hk.1 hc
      · exact altsK_ok hk.2 ⟨b, hb, hc⟩ fun a ha => hg a (List.mem_cons_of_mem _ ha)

theorem obK_both {c : Option Prop} {X : Prop} (h : obK c X) : holds c ∧ X := by
  cases c with
  | none => exact ⟨trivial, h⟩
  | some c => exact h
theorem tellK_ok {G : Alt → Prop} {tl : Option Bool} {l : List Alt} {K : Value → Hp → Prop} (hk : tellK tl l K) (h1 : ∃ a ∈ l, holds a.cond) (h2 : ∀ a ∈ l, holds a.cond → holds a.ob → G a) : ∃ a, G a ∧ K a.v a.h := by
  unfold tellK at hk
  split at hk
  · rename_i a b
    have h3 := obK_both hk
    have h4 := obK_both h3.2
    exact ⟨a, h2 a List.mem_cons_self h3.1 h4.1, h4.2⟩
  · rename_i b a
    have h3 := obK_both hk
    have h4 := obK_both h3.2
    exact ⟨a, h2 a (List.mem_cons_of_mem _ List.mem_cons_self) h3.1 h4.1, h4.2⟩
  · exact altsK_ok hk h1 h2

theorem stepX_ok {o : Oper} {s : St} {r : XR} {tl : Option Bool} {K : Value → Hp → Prop} (e : stepX std P o s = some r) (hK : r.K tl K) : o.op.operands.toList.all okOperand = true ∧ ∃ v h, StepS P o s v h ∧ K v h := by
  unfold stepX at e
  split at e
  case isFalse => cases e
  rename_i hok
  refine ⟨hok, ?_⟩
  have fin : ∀ {alts : List Alt}, AltsOk alts (fun a => StepS P o s a.v a.h) → tellK tl alts K → ∃ v h, StepS P o s v h ∧ K v h := fun ha hk => by
    obtain ⟨a, h1, h2⟩ := tellK_ok hk ha.1 ha.2
    exact ⟨a.v, a.h, h1, h2⟩
  split at e
  · rename_i hk
    split at e
    · rename_i v hv
      simp only [Option.some.injEq] at e; subst e
      exact ⟨v, s.h, .T hk rfl fun {μ ρ'} w hr => simT hv hr w, hK⟩
    · split at e
      · rename_i alts h
        simp only [Option.some.injEq] at e; subst e; exact fin (symTV_ok h) hK
      · cases h : symDT std P (evA s.tmps) o s.h with
        | none => simp [h] at e
        | some alts =>
          simp [h] at e; subst e
          obtain ⟨h1, h2⟩ := symDT_ok h
          exact fin ⟨h2.1, fun a ha hc ho => .T h1 (h2.2 a ha hc ho).1 (h2.2 a ha hc ho).2⟩ hK
  · rename_i hk
    split at e
    · rename_i v hv
      simp only [Option.some.injEq] at e; subst e
      exact ⟨v, s.h, .R hk rfl fun {μ base w ρ'} hr hrel => simR hk hv hr hrel, hK⟩
    · split at e
      · rename_i alts h
        simp only [Option.some.injEq] at e; subst e; exact fin (symR_step h) hK
      · split at e
        · rename_i alts h
          simp only [Option.some.injEq] at e; subst e
          obtain ⟨h1, h2⟩ := symDR_ok h
          exact fin ⟨h2.1, fun a ha hc ho => .R h1 (h2.2 a ha hc ho).1 ((h2.2 a ha hc ho).2 s.h)⟩ hK
        · cases h : symMV std P (evA s.tmps) o s.h with
          | none => simp [h] at e
          | some alts =>
            simp [h] at e; subst e
            obtain ⟨h1, h2⟩ := symMV_ok h
            exact fin ⟨h2.1, fun a ha hc ho => .R h1 (h2.2 a ha hc ho).1 (h2.2 a ha hc ho).2⟩ hK
  · rename_i hk
    split at e
    · rename_i b f hv
      simp only [Option.some.injEq] at e; subst e
      exact ⟨_, _, .N hk rfl rfl (symDN_ok hv).2, hK⟩
    split at e
    · rename_i b f hv
      simp only [Option.some.injEq] at e; subst e
      exact ⟨_, _, .N hk rfl rfl fun {μ base w ρ' g} hr hrel {b} hb => simNz hk hv hr hrel hb, hK⟩
    · split at e
      · rename_i b f hv
        simp only [Option.some.injEq] at e; subst e
        obtain ⟨hk', hs⟩ := symN_ok hv
        exact ⟨_, _, .N hk' rfl rfl hs, hK⟩
      · cases h : symM std P (evA s.tmps) o s.h with
        | none => simp [h] at e
        | some alts => simp [h] at e; subst e; exact fin (symM_ok h) hK
  · rename_i hk
    split at e
    · rename_i v h hv
      simp only [Option.some.injEq] at e; subst e
      refine ⟨v, h, .E (by unfold isEff; rw [hk]) (stepE_next hv) fun {μ base w a K Q} hr hrel hf hk => ?_, hK⟩
      unfold Oper.wp
      obtain ⟨w1, μ1, h1⟩ := simE hv hr hrel (fun hlt => hf s.h.next (Nat.le_refl _) hlt)
      rcases h1 with ⟨h1, h2, rfl⟩ | ⟨v', w', μ', h1, h2⟩
      · rw [h2]; exact hk _ w1 μ1 h1
      · rw [h2]; exact hk v' w' μ' h1
    · split at e
      · rename_i alts h
        simp only [Option.some.injEq] at e; subst e; exact fin (symE_ok h) hK
      · cases h : symEV std P (evA s.tmps) o s.h with
        | none => simp [h] at e
        | some alts => simp [h] at e; subst e; exact fin (symEV_ok h) hK
  · cases e

theorem deep_ok {o : Oper} {s : St} {r : XR} {tl : Option Bool} {K : Value → Hp → Prop} (hd : deepR P o s = true) (e : stepX std P o s = some r) (hK : r.K tl K) :
    ∃ v h, StepS P o s v h ∧ (∀ h', SemR P (evA s.tmps) o h' v) ∧ K v h := by
  unfold deepR at hd
  split at hd
  case h_2 => cases hd
  rename_i hk
  split at hd
  case h_2 => cases hd
  rename_i h1 h2
  unfold stepX at e
  split at e
  case isFalse => cases e
  cases h : symDR std P (evA s.tmps) o s.h with
  | none => rw [h] at hd; cases hd
  | some alts =>
    simp only [hk, h1, h2, h, Option.some.injEq] at e
    subst e
    obtain ⟨h3, h4⟩ := symDR_ok h
    obtain ⟨a, ⟨h5, h6⟩, h7⟩ := tellK_ok hK h4.1 h4.2
    exact ⟨a.v, a.h, .R hk h5 (h6 s.h), h6, h7⟩
/-- A state, and the model's. -/
structure Cfg (μ : Mu) (base : Nat) (s : St) (a : Act) (w : World) : Prop where
  tmps : TR μ s.tmps a.tmps
  defers : a.defers = []
  rel : Rel μ base s.h.get w
  free : ∀ b, s.h.next ≤ b → μ b = none

/-- Behind some code: the first k blocks are where they were. -/
structure Post (k : Nat) (μ : Mu) (base : Nat) (h : Hp) (w : World) (s' : St) (a' : Act) (w' : World) (μ' : Mu) : Prop where
  cfg : Cfg μ' base s' a' w'
  fr : Fr μ h.get w w'
  own : ∀ b p x, μ' b = some p → s'.h.get b = some x → w.heap.size ≤ p.c ∨ ∃ b0 p0 x0, μ b0 = some p0 ∧ h.get b0 = some x0 ∧ (ownB x = true → ownB x0 = true) ∧ p0.c = p.c
  prot : ∀ i, i < k → μ' i = μ i
  zle : ∀ c i a, μ.z c i = some a → μ'.z c i = some a
  fz : ∀ c i a, μ'.z c i = some a → μ.z c i = some a ∨ w.heap.size ≤ c ∨ ∃ b0 p0 x0, μ b0 = some p0 ∧ h.get b0 = some x0 ∧ ownB x0 = true ∧ p0.c = c

theorem Post.refl {k : Nat} {μ : Mu} {base : Nat} {s : St} {a : Act} {w : World} (h : Cfg μ base s a w) : Post k μ base s.h w s a w μ :=
  ⟨h, Fr.refl _ _ _, fun b p x hb hx => .inr ⟨b, p, x, hb, hx, id, rfl⟩, fun _ _ => rfl, fun _ _ _ h => h, fun _ _ _ h => .inl h⟩
theorem Post.trans {k : Nat} {μ μ1 μ2 : Mu} {base : Nat} {h : Hp} {w w1 w2 : World} {s1 s2 : St} {a1 a2 : Act} (p : Post k μ base h w s1 a1 w1 μ1) (q : Post k μ1 base s1.h w1 s2 a2 w2 μ2) : Post k μ base h w s2 a2 w2 μ2 := by
  refine ⟨q.cfg, ⟨q.fr.os.trans p.fr.os, q.fr.tape.trans p.fr.tape, q.fr.output.trans p.fr.output, Nat.le_trans p.fr.size q.fr.size, fun c hc hn => ?_⟩, fun b x y hb hg => ?_, fun i hi => (q.prot i hi).trans (p.prot i hi), fun c i a h => q.zle c i a (p.zle c i a h), fun c i a hc => ?_⟩
  · rw [q.fr.block c (Nat.lt_of_lt_of_le hc p.fr.size) ?_, p.fr.block c hc hn]
    intro b x y hb hg ho e
    rcases p.own b x y hb hg with h1 | ⟨b0, p0, x0, h1, h2, h3, h4⟩
    · omega
    · exact hn b0 p0 x0 h1 h2 (h3 ho) (h4.trans e)
  · rcases q.own b x y hb hg with h1 | ⟨b0, p0, x0, h1, h2, h3, h4⟩
    · exact .inl (Nat.le_trans p.fr.size h1)
    · rcases p.own b0 p0 x0 h1 h2 with h5 | ⟨b1, p1, x1, h5, h6, h7, h8⟩
      · exact .inl (by omega)
      · exact .inr ⟨b1, p1, x1, h5, h6, fun h => h7 (h3 h), h8.trans h4⟩
  · rcases q.fz c i a hc with h1 | h1 | ⟨b0, p0, x0, h1, h2, ho, h4⟩
    · exact p.fz c i a h1
    · exact .inr (.inl (Nat.le_trans p.fr.size h1))
    · rcases p.own b0 p0 x0 h1 h2 with h5 | ⟨b1, p1, x1, h5, h6, h7, h8⟩
      · exact .inr (.inl (by omega))
      · exact .inr (.inr ⟨b1, p1, x1, h5, h6, h7 ho, h8.trans h4⟩)

theorem Post.weaken {k k' : Nat} {μ μ' : Mu} {base : Nat} {h : Hp} {w w' : World} {s' : St} {a' : Act} (p : Post k μ base h w s' a' w' μ') (hk : k' ≤ k) : Post k' μ base h w s' a' w' μ' :=
  ⟨p.cfg, p.fr, p.own, fun i hi => p.prot i (by omega), p.zle, p.fz⟩

theorem Sim.own' {μ μ' : Mu} {base : Nat} {g g' : Gm} {w w' : World} (h : Sim μ base g w μ' g' w') : ∀ b p x, μ' b = some p → g' b = some x → w.heap.size ≤ p.c ∨ ∃ b0 p0 x0, μ b0 = some p0 ∧ g b0 = some x0 ∧ (ownB x = true → ownB x0 = true) ∧ p0.c = p.c := by
  intro b p x hb hx
  rcases h.own b p x hb hx with h1 | ⟨b0, p0, x0, h1, h2, h3, h4⟩
  · exact .inl h1
  · exact .inr ⟨b0, p0, x0, h1, h2, h3, h4⟩

/-- What is behind a step of an operation. -/
theorem post_out {k : Nat} {μ μ' : Mu} {base : Nat} {s : St} {a : Act} {w w' : World} {o : Oper} {v v' : Value} {h' : Hp} (hc : Cfg μ base s a w) (hk : k ≤ s.h.next) (ho : Out μ base s.h w v h' v' w' μ') :
    Post k μ base s.h w ⟨s.put o.dst v, h'⟩ (a.put o.dst v') w' μ' := by
  refine ⟨⟨TR.put (s := s) (hc.tmps.mono ho.sim.le) o.dst ho.val, by rw [put_defers]; exact hc.defers, ho.sim.rel, fun b hb => ?_⟩, ho.sim.fr, ho.sim.own', fun i hi => ?_, ho.sim.le.z, ho.sim.fz⟩
  · by_cases e : μ' b = μ b
    · rw [e]; exact hc.free b (Nat.le_trans ho.next hb)
    · have hb : h'.next ≤ b := hb
      have := ho.dom b e; omega
  · by_cases e : μ' i = μ i
    · exact e
    · have := ho.dom i e; omega

/-- What a call comes to. -/
structure COut (μ : Mu) (base : Nat) (h : Hp) (w : World) (v : Value) (h' : Hp) (v' : Value) (w' : World) (μ' : Mu) : Prop where
  val : VR μ' v v'
  rel : Rel μ' base h'.get w'
  free : ∀ b, h'.next ≤ b → μ' b = none
  fr : Fr μ h.get w w'
  own : ∀ b p x, μ' b = some p → h'.get b = some x → w.heap.size ≤ p.c ∨ ∃ b0 p0 x0, μ b0 = some p0 ∧ h.get b0 = some x0 ∧ (ownB x = true → ownB x0 = true) ∧ p0.c = p.c
  prot : ∀ i, i < h.next → μ' i = μ i
  next : h.next ≤ h'.next
  zle : ∀ c i a, μ.z c i = some a → μ'.z c i = some a
  fz : ∀ c i a, μ'.z c i = some a → μ.z c i = some a ∨ w.heap.size ≤ c ∨ ∃ b0 p0 x0, μ b0 = some p0 ∧ h.get b0 = some x0 ∧ ownB x0 = true ∧ p0.c = c

def CallSem (P : Program) (f : FuncId) (args : List Value) (h : Hp) (K : Value → Hp → Prop) : Prop :=
  ∀ {μ : Mu} {base : Nat} {w : World} {args' : Array Value}, All2 (VR μ) args args'.toList → Rel μ base h.get w → (∀ b, h.next ≤ b → μ b = none) →
    Does P f args' w fun v' w' => ∃ v h' μ', K v h' ∧ COut μ base h w v h' v' w' μ'
def CallVOk (P : Program) (call : CallV) : Prop := ∀ {f args h K}, call f args h K → CallSem P f args h K
/-- A call whose answer is a function of what is known. -/
def FunSem (P : Program) (f : FuncId) (args : List Value) (h : Hp) (K : Value → Hp → Prop) : Prop :=
  ∃ v h', K v h' ∧ h.next ≤ h'.next ∧ ∀ {μ : Mu} {base : Nat} {w : World} {args' : Array Value}, All2 (VR μ) args args'.toList → Rel μ base h.get w → Fresh μ h.next h'.next →
    Does P f args' w fun v' w' => ∃ μ', Out μ base h w v h' v' w' μ'
def DrawOk (P : Program) (D : FuncId → Option (List Value → Hp → (Value → Hp → Prop) → Prop)) : Prop := ∀ f g, D f = some g → ∀ args h K, g args h K → FunSem P f args h K
def PureOk (P : Program) (D : FuncId → Option LFun) : Prop := ∀ f g, D f = some g → ∀ args v, g args = some v → ∀ h, FunSem P f args h fun v' h' => v' = v ∧ h' = h
structure ConOk (P : Program) (C : Con) : Prop where
  con : ∀ f g, C f = some g → ∀ args h K, g args h K → CallSem P f args h K
  draws : DrawOk P C.draws
  pures : PureOk P C.pures

/-- A triple. -/
def Tri (P : Program) (k : Nat) (c : Code) (s : St) (Q : Ex → St → Prop) : Prop :=
  k ≤ s.h.next → ∀ {μ : Mu} {base : Nat} {a : Act} {w : World} {R : Exit → Act → World → Prop}, Cfg μ base s a w →
    (∀ ex s' a' w' μ', Q ex s' → k ≤ s'.h.next → Post k μ base s.h w s' a' w' μ' → R (exOf ex) a' w') → c.wp P R a w

theorem callee_ok {o : Oper} {c : Call} {s : St} {g : FuncId} {args : List Value} {μ : Mu} {a : Act} (hop : o.op = .call c) (hcal : callee (evA s.tmps) c = some (g, args)) (hr : OpR μ (evA s.tmps) a.eval o.op.operands.toList) :
    ∃ args', (∀ w, (execOp a.eval o).run P w = (callFunc g args').run P w) ∧ All2 (VR μ) args args'.toList := by
  unfold callee at hcal
  split at hcal
  · rename_i f hcf
    split at hcal
    · rename_i g0 first captured hfv
      simp only [Option.some.injEq, Prod.mk.injEq] at hcal
      obtain ⟨rfl, rfl⟩ := hcal
      have hmf : f ∈ o.op.operands.toList := by rw [hop]; simp [Op.operands, Call.operands, hcf]
      have hfr := hr f hmf
      rw [hfv] at hfr
      obtain ⟨first', cap', hfe, h1, h2⟩ := hfr.inv_func rfl
      refine ⟨first' ++ c.args.map a.eval ++ cap', fun w => ?_, ?_⟩
      · unfold execOp
        simp only [hop, resolve, hcf, Deferred.ofValue, hfe, Sem.run_bind, Sem.run_pure, Result.andThen_ok, invoke]
      · rw [Array.toList_append, Array.toList_append, Array.toList_map]
        refine ((h1.mono fun _ _ _ r => .zero r).append (list_rel fun x hx => hr x ?_)).append (h2.mono fun _ _ _ r => .zero r)
        rw [hop]; simp [Op.operands, Call.operands]; exact .inr (by simpa using hx)
    · cases hcal
  · cases hcal

theorem cfg_le {μ μ' : Mu} {h : Hp} (hf : ∀ b, h.next ≤ b → μ b = none) (hp : ∀ i, i < h.next → μ' i = μ i) (hz : ∀ c i a, μ.z c i = some a → μ'.z c i = some a) : Mu.le μ μ' := by
  refine ⟨fun b p hb => ?_, hz⟩
  by_cases hl : b < h.next
  · rw [hp b hl]; exact hb
  · rw [hf b (by omega)] at hb; cases hb

theorem genK_ok {g : Bool} {v : Value} {K : Value → Prop} (h : genK std g v K) : K v := by
  unfold genK at h
  split at h
  · split at h
    · split at h
      · rename_i hm x k e hd
        have h1 := h e rfl
        rcases den_cases v with h2 | ⟨w, h2, h3, h4⟩
        · rw [h2] at hd
          rw [hd] at hm
          exact Bool.noConfusion hm
        · rw [h4] at hd
          rw [hd] at h2
          subst h2
          exact h1
      · exact h
    · exact h
  · exact h
/-- Of two ways one. -/
theorem splitK_ok {v : Value} {K : Value → Prop} (h : splitK v K) : ∃ v1, K v1 ∧ ∀ {μ : Mu} {v' : Value}, VR μ v v' → VR μ v1 v' := by
  unfold splitK at h
  split at h
  · rename_i f y
    split at h
    · rename_i b hf
      have key : ∀ {μ : Mu} {v' : Value}, VR μ (.func (.yield 3) f y) v' → v' = .bool b := fun hr => mkb_inv hf (hr.zero_of_basic rfl)
      cases b with
      | true => exact ⟨_, h.1 rfl, fun hr => by rw [key hr]; exact .plain1 rfl⟩
      | false => exact ⟨_, h.2 rfl, fun hr => by rw [key hr]; exact .plain1 rfl⟩
    · exact ⟨_, h, fun hr => hr⟩
  · exact ⟨_, h, fun hr => hr⟩
theorem StepS.cast {o : Oper} {s : St} {v v1 : Value} {h : Hp} (e : StepS P o s v h) (hv : ∀ {μ : Mu} {v' : Value}, VR μ v v' → VR μ v1 v') : StepS P o s v1 h := by
  cases e with
  | T h1 h2 h3 => exact .T h1 h2 fun {μ ρ'} w hr => let ⟨v', a, b⟩ := h3 w hr; ⟨v', a, hv b⟩
  | R h1 h2 h3 => exact .R h1 h2 fun {μ base w ρ'} hr hrel => let ⟨v', a, b⟩ := h3 hr hrel; ⟨v', a, hv b⟩
  | N h1 h2 h3 h4 =>
    rename_i x f
    refine .N (f := fun b => if b = s.h.next then v1 else f b) h1 (by simp) h3 fun {μ base w ρ' g} hr hrel {b} hb => ?_
    obtain ⟨v', w', p, z, a1, a2, a3⟩ := h4 hr hrel hb
    refine ⟨v', w', p, z, a1, ?_, a3⟩
    by_cases e : b = s.h.next
    · simp only [e, if_true]; rw [← e]; rw [h2, ← e] at hv; exact hv a2
    · simp only [e, if_false]; exact a2
  | E h1 h2 h3 => exact .E h1 h2 fun {μ base w a K Q} hr hrel hf hk => h3 hr hrel hf fun v' w' μ' ho => hk v' w' μ' ⟨hv ho.val, ho.sim, ho.next, ho.dom, ho.keep⟩
theorem opsV_ok {gn rr : Oper → Bool} {tl : Oper → (Operand → Value) → Option Bool} {call : CallV} (hc : CallVOk P call) {ops : Array Oper} {k : Nat} {base : Nat} {Q : Exit → Act → World → Prop} : ∀ {l : List Oper} {s : St} {K : St → Prop}, opsV std P gn rr tl call ops l s K → k ≤ s.h.next →
    ∀ {μ : Mu} {a : Act} {w : World}, Cfg μ base s a w → (∀ s' a' w' μ', K s' → k ≤ s'.h.next → Post k μ base s.h w s' a' w' μ' → Q .normal a' w') → wpList P ops Q l a w
  | [], s, K, e, hk, μ, a, w, hcf, hq => hq s a w μ e hk (Post.refl hcf)
  | o :: l, s, K, e, hk, μ, a, w, hcf, hq => by
    unfold opsV at e
    unfold wpList
    split at e
    case isFalse => exact e.elim
    rename_i hlive
    rw [wanted_rel hcf.tmps ops o hlive]
    split at e
    · rename_i hw
      rw [if_pos hw]
      left
      have other : ∀ {r : XR}, stepX std P o s = some r → (r.K (tl o (evA s.tmps)) fun v h => genK std (gn o) v fun v => splitK v fun v => opsV std P gn rr tl call ops l ⟨s.put o.dst v, h⟩ K) → o.wp P a w (wpList P ops Q l) Q := by
        intro r hr hK
        obtain ⟨hok, v, h, hs, hK⟩ := stepX_ok hr hK
        obtain ⟨v1, hK, hv⟩ := splitK_ok (genK_ok hK)
        have hs := hs.cast hv
        refine hs.sound (opR_of hcf.tmps hok) hcf.rel (fun b h1 _ => hcf.free b h1) fun v' w' μ' ho => ?_
        have hp := post_out (o := o) hcf hk ho
        exact opsV_ok hc hK (Nat.le_trans hk ho.next) hp.cfg fun s' a' w' μ' h1 h2 h3 => hq s' a' w' μ' h1 h2 (hp.trans h3)
      split at e
      · split at e
        case isFalse => exact e.elim
        rename_i hok
        split at e
        case h_2 => exact e.elim
        rename_i c hop
        split at e
        case h_2 => exact (show False from e).elim
        rename_i f args hcal
        have hr := opR_of hcf.tmps hok
        obtain ⟨args', h1, h2⟩ := callee_ok (P := P) hop hcal hr
        unfold Oper.wp
        rw [h1 w]
        have fin : ∀ {v' : Value} {w' : World}, (∃ v h' μ', (splitK v fun v => opsV std P gn rr tl call ops l ⟨s.put o.dst v, h'⟩ K) ∧ COut μ base s.h w v h' v' w' μ') → wpList P ops Q l (a.put o.dst v') w' := by
          rintro v' w' ⟨v0, h', μ', hK, co⟩
          obtain ⟨v, hK, hv⟩ := splitK_ok hK
          have co : COut μ base s.h w v h' v' w' μ' := ⟨hv co.val, co.rel, co.free, co.fr, co.own, co.prot, co.next, co.zle, co.fz⟩
          have hle := cfg_le hcf.free co.prot co.zle
          have hp : Post k μ base s.h w ⟨s.put o.dst v, h'⟩ (a.put o.dst v') w' μ' :=
            ⟨⟨TR.put (s := s) (hcf.tmps.mono hle) o.dst co.val, by rw [put_defers]; exact hcf.defers, co.rel, co.free⟩, co.fr, co.own, fun i hi => co.prot i (by omega), co.zle, co.fz⟩
          exact opsV_ok hc hK (Nat.le_trans hk co.next) hp.cfg fun s' a' w' μ' h1 h2 h3 => hq s' a' w' μ' h1 h2 (hp.trans h3)
        rcases hc e h2 hcf.rel hcf.free with ⟨v', w', h3, h4⟩ | ⟨h3, h4⟩
        · rw [h3]; exact fin h4
        · rw [h3]
          simp only [Oper.upon]
          exact h4.mono fun en w' ⟨v', he, ho⟩ => by subst he; exact fin ho
      · split at e
        · rename_i alts hg
          have hg' : stepG std P (evA s.tmps) o s.h = some alts := by
            split at hg
            · cases hg
            · exact hg
          have hok : o.op.operands.toList.all okOperand = true := by
            unfold stepG at hg'
            split at hg'
            · assumption
            · cases hg'
          have hal := stepG_ok (P := P) hg'
          obtain ⟨al, ⟨h1, h2⟩, hK⟩ := altsK_ok e hal.1 hal.2
          refine h2 (opR_of hcf.tmps hok) hcf.rel (fun b h1 _ => hcf.free b h1) fun v' w' μ' ho => ?_
          have hp : Post k μ base s.h w ⟨s.put o.dst al.v, al.h⟩ (a.put o.dst v') w' μ' := by
            refine ⟨⟨TR.put (s := s) (hcf.tmps.mono ho.sim.le) o.dst ho.val, by rw [put_defers]; exact hcf.defers, ho.sim.rel, fun b hb => ?_⟩, ho.sim.fr, ho.sim.own, fun i hi => ?_, ho.sim.le.z, ho.sim.fz⟩
            · by_cases e : μ' b = μ b
              · rw [e]; exact hcf.free b (Nat.le_trans ho.next hb)
              · have hb : al.h.next ≤ b := hb
                have := ho.dom b e; omega
            · by_cases e : μ' i = μ i
              · exact e
              · have := ho.dom i e; omega
          exact opsV_ok hc hK (Nat.le_trans hk ho.next) hp.cfg fun s' a' w' μ' h1 h2 h3 => hq s' a' w' μ' h1 h2 (hp.trans h3)
        split at e
        · rename_i r hr
          exact other hr e
        · exact (show False from e).elim
    · rename_i hw
      rw [if_neg hw]
      have hp : Post k μ base s.h w ⟨s.put o.dst undef, s.h⟩ (a.put o.dst undef) w μ :=
        ⟨⟨TR.put (s := s) hcf.tmps o.dst (.undef μ), by rw [put_defers]; exact hcf.defers, hcf.rel, hcf.free⟩, Fr.refl _ _ _, fun b p x hb hx => .inr ⟨b, p, x, hb, hx, id, rfl⟩, fun _ _ => rfl, fun _ _ _ h => h, fun _ _ _ h => .inl h⟩
      exact opsV_ok hc e hk hp.cfg fun s' a' w' μ' h1 h2 h3 => hq s' a' w' μ' h1 h2 (hp.trans h3)

/-- A call that is told as one that leaves the heap as it is leaves it so. -/
def Quiet (P : Program) (pu : FuncId → Option LFun) (o : Oper) (s : St) (_ : Value) (h : Hp) : Prop := kindOf P o.op = .C → (pureCall pu o s).isSome = true → h = s.h
/-- What is told of a step of a region whose order is open. -/
def Told (P : Program) (pu : FuncId → Option LFun) (o : Oper) (s : St) (v : Value) (h : Hp) : Prop := Quiet P pu o s v h ∧ (deepR P o s = true → ∀ h', SemR P (evA s.tmps) o h' v)
theorem deepR_kind {o : Oper} {s : St} (h : deepR P o s = true) : kindOf P o.op = .R := by
  unfold deepR at h
  split at h
  · assumption
  · cases h
/-- A region whose order is open: there is a run in the text's order of which what is asked holds. -/
theorem drawV_ok {gn rr : Oper → Bool} {tl : Oper → (Operand → Value) → Option Bool} {pu : FuncId → Option LFun} (hpu : PureOk P pu) {D : FuncId → Option (List Value → Hp → (Value → Hp → Prop) → Prop)} (hD : DrawOk P D) {call : Caller} (hc : CallOk P call) {ops : Array Oper} : ∀ {l : List Oper} {s : St} {K : List St → List Value → Prop}, drawV std P gn rr tl pu D call ops l s K →
    ∃ tr vs, Run P (Told P pu) ops l s tr vs ∧ K tr vs
  | [], s, K, e => ⟨_, _, .nil, e⟩
  | o :: l, s, K, e => by
    unfold drawV at e
    split at e
    case isFalse => exact e.elim
    rename_i hlive
    split at e
    · rename_i hw
      have other : kindOf P o.op ≠ .C → ∀ {r : XR}, stepX std P o s = some r → (r.K (tl o (evA s.tmps)) fun v h => genK std (gn o) v fun v => splitK v fun v => drawV std P gn rr tl pu D call ops l ⟨s.put o.dst v, h⟩ fun tr vs => K (s :: tr) (v :: vs)) → ∃ tr vs, Run P (Told P pu) ops (o :: l) s tr vs ∧ K tr vs := by
        intro hkc r hr hK
        by_cases hdp : deepR P o s = true
        · have hok := (stepX_ok hr hK).1
          obtain ⟨v, h, hs, hall, hK⟩ := deep_ok hdp hr hK
          obtain ⟨v1, hK, hv⟩ := splitK_ok (genK_ok hK)
          have hs := hs.cast hv
          obtain ⟨tr, vs, h1, h2⟩ := drawV_ok hpu hD hc hK
          exact ⟨_, _, .step hlive hw hok hs ⟨fun hk _ => absurd hk hkc, fun _ h' {μ base w ρ'} hr hrel => let ⟨v', a, b⟩ := hall h' hr hrel; ⟨v', a, hv b⟩⟩ h1, h2⟩
        · obtain ⟨hok, v, h, hs, hK⟩ := stepX_ok hr hK
          obtain ⟨v1, hK, hv⟩ := splitK_ok (genK_ok hK)
          have hs := hs.cast hv
          obtain ⟨tr, vs, h1, h2⟩ := drawV_ok hpu hD hc hK
          exact ⟨_, _, .step hlive hw hok hs ⟨fun hk _ => absurd hk hkc, fun h => absurd h hdp⟩ h1, h2⟩
      split at e
      · rename_i hkind
        have asFun : ∀ {f : FuncId} {args : List Value} {c : Call} {v : Value} {h' : Hp}, o.op.operands.toList.all okOperand = true → o.op = .call c → callee (evA s.tmps) c = some (f, args) → s.h.next ≤ h'.next →
            (∀ {μ : Mu} {base : Nat} {w : World} {args' : Array Value}, All2 (VR μ) args args'.toList → Rel μ base s.h.get w → Fresh μ s.h.next h'.next → Does P f args' w fun v' w' => ∃ μ', Out μ base s.h w v h' v' w' μ') → StepS P o s v h' := by
          intro f args c v h' hok hop hcal hn hdo
          classical
          let call1 : Caller := fun f' a' h0 => if f' = f ∧ a' = args ∧ h0 = s.h then some (v, h') else none
          have hc1 : CallOk P call1 := by
            refine ⟨fun {f' a' h0 v0 h0'} e0 => ?_, fun {f' a' h0 v0 h0'} e0 => ?_⟩
            · simp only [call1] at e0
              split at e0
              · rename_i hx; obtain ⟨rfl, rfl, rfl⟩ := hx
                simp only [Option.some.injEq, Prod.mk.injEq] at e0; obtain ⟨rfl, rfl⟩ := e0
                exact hn
              · cases e0
            · simp only [call1] at e0
              split at e0
              · rename_i hx; obtain ⟨rfl, rfl, rfl⟩ := hx
                simp only [Option.some.injEq, Prod.mk.injEq] at e0; obtain ⟨rfl, rfl⟩ := e0
                exact fun {μ base w args'} hl hr hfr => hdo hl hr hfr
              · cases e0
          have hs : stepO P call1 o s = some (v, h') := by
            unfold stepO
            rw [if_pos hok, hkind]
            simp only [hop, hcal]
            exact if_pos ⟨rfl, rfl, rfl⟩
          exact stepS_of hc1 hs
        split at e
        · rename_i v hpc
          have hpc0 := hpc
          unfold pureCall at hpc
          split at hpc
          case isFalse => cases hpc
          rename_i hok
          split at hpc
          case h_2 => cases hpc
          rename_i c hop
          split at hpc
          case h_2 => cases hpc
          rename_i f args hcal
          split at hpc
          case h_2 => cases hpc
          rename_i g hg
          obtain ⟨v', h', ⟨rfl, rfl⟩, hn, hdo⟩ := hpu f g hg args v hpc s.h
          obtain ⟨v1, e, hv⟩ := splitK_ok e
          obtain ⟨tr, vs, h1, h2⟩ := drawV_ok hpu hD hc e
          exact ⟨_, _, .step hlive hw hok ((asFun hok hop hcal hn hdo).cast hv) ⟨fun _ _ => rfl, fun hd => by rw [deepR_kind hd] at hkind; cases hkind⟩ h1, h2⟩
        rename_i hpc
        have hnq : ∀ {v : Value} {h : Hp}, Quiet P pu o s v h := fun _ hq => by rw [hpc] at hq; cases hq
        split at e
        · rename_i g hg
          unfold drawCall at hg
          split at hg
          case isFalse => cases hg
          rename_i hok
          split at hg
          case h_2 => cases hg
          rename_i c hop
          split at hg
          case h_2 => cases hg
          rename_i f args hcal
          cases hf : D f with
          | none => rw [hf] at hg; cases hg
          | some gf =>
            rw [hf] at hg
            simp only [Option.map_some, Option.some.injEq] at hg
            subst hg
            obtain ⟨v, h', hK, hn, hdo⟩ := hD f gf hf args s.h _ e
            obtain ⟨v1, hK, hv⟩ := splitK_ok hK
            obtain ⟨tr, vs, h1, h2⟩ := drawV_ok hpu hD hc hK
            exact ⟨_, _, .step hlive hw hok ((asFun hok hop hcal hn hdo).cast hv) ⟨hnq, fun hd => by rw [deepR_kind hd] at hkind; cases hkind⟩ h1, h2⟩
        · split at e
          · rename_i v h hs
            obtain ⟨tr, vs, h1, h2⟩ := drawV_ok hpu hD hc e
            exact ⟨_, _, .step hlive hw (stepO_ok hs) (stepS_of hc hs) ⟨hnq, fun hd => by rw [deepR_kind hd] at hkind; cases hkind⟩ h1, h2⟩
          · exact e.elim
      · rename_i hkd
        split at e
        · rename_i alts hg
          have hkd : kindOf P o.op ≠ .C := hkd
          have hg' : isEff P o = true ∧ stepG std P (evA s.tmps) o s.h = some alts := by
            split at hg
            · cases hg
            · rename_i hc
              simp only [Bool.or_eq_true, Bool.not_eq_true', not_or, Bool.not_eq_false] at hc
              exact ⟨hc.2, hg⟩
          have hok : o.op.operands.toList.all okOperand = true := by
            have := hg'.2
            unfold stepG at this
            split at this
            · assumption
            · cases this
          have hal := stepG_ok (P := P) hg'.2
          obtain ⟨al, ⟨h1, h2⟩, hK⟩ := altsK_ok e hal.1 hal.2
          obtain ⟨tr, vs, h3, h4⟩ := drawV_ok hpu hD hc hK
          exact ⟨_, _, .step hlive hw hok (.E hg'.1 h1 h2) ⟨fun hk _ => absurd hk hkd, fun hd => by have h5 := hg'.1; unfold isEff at h5; rw [deepR_kind hd] at h5; cases h5⟩ h3, h4⟩
        split at e
        · rename_i r hr
          exact other hkd hr e
        · exact (show False from e).elim
    · rename_i hw
      obtain ⟨tr, vs, h1, h2⟩ := drawV_ok hpu hD hc e
      exact ⟨_, _, .skip hlive (by simpa using hw) h1, h2⟩

theorem readM_ok {ρ : Operand → Value} {o : Oper} {h : Hp} {v : Value} (hk : kindOf P o.op = .R) (e : readM std P ρ o h = some v) : SemR P ρ o h v := by
  unfold readM at e
  split at e
  · rename_i u hu
    simp only [Option.some.injEq] at e; subst e
    exact fun {μ base w ρ'} hr hrel => simR hk hu hr hrel
  · split at e
    · rename_i u h' hm
      simp only [Option.some.injEq] at e; subst e
      exact ((symMR_ok hm).2.2 _ (List.mem_singleton.2 rfl) trivial trivial).2
    · cases e
theorem likeM_refl (v : Value) : likeM v v := by
  cases v <;> rfl
theorem likeM_ok {μ : Mu} {u v v' : Value} (h : likeM u v) (hv : VR μ u v') : VR μ v v' := by
  unfold likeM at h
  split at h
  · rename_i c
    split at h
    case h_2 => cases h; exact hv
    rename_i f x
    split at h
    · rename_i b hf hx
      subst h
      have hf : f = #[.bool b] := by rw [← Array.toList_inj, hf]
      have hx : x = #[] := by rw [← Array.toList_inj, hx]
      subst hf; subst hx
      have h0 := hv.zero_of_basic rfl
      generalize hg : Value.func (Fn.yield 3) #[.bool b] #[] = d at h0
      cases h0 with
      | mbool => simp [mkb] at hg; subst hg; exact .plain1 rfl
      | plain hp => subst hg; simp [plain1] at hp
      | mark _ _ => simp [mk] at hg
      | deep _ => simp [dsl] at hg
      | osl _ _ _ => simp [Abs.osq] at hg
      | fptr _ _ _ => simp [Abs.fptr] at hg
      | rptr _ => simp [Abs.rptr] at hg
      | _ => cases hg
    · exact h.elim
  · cases h; exact hv
theorem sameM_ok {ρ : Operand → Value} {o : Oper} {h : Hp} {v : Value} (hk : kindOf P o.op = .R) (e : sameM (readM std P ρ o h) v) : SemR P ρ o h v := by
  unfold sameM at e
  split at e
  · rename_i u hu
    intro μ base w ρ' hr hrel
    obtain ⟨v', h1, h2⟩ := readM_ok hk hu hr hrel
    exact ⟨v', h1, likeM_ok e h2⟩
  · exact e.elim
theorem pairsP_ok {pu : FuncId → Option LFun} {ops : Array Oper} {tr : List St} {vs : List Value} {X : Prop} : ∀ {l : List (Nat × Nat)}, pairsP std P pu ops tr vs l X → (∀ p ∈ l, pairP std P ops tr vs p ∨ (quietB P pu ops tr p || deepAt P ops tr p.1) = true) ∧ X
  | [], h => ⟨fun _ hp => (by cases hp), h⟩
  | p :: r, h => by
    have key : pairP std P ops tr vs p ∨ (quietB P pu ops tr p || deepAt P ops tr p.1) = true → pairsP std P pu ops tr vs r X → (∀ q ∈ p :: r, pairP std P ops tr vs q ∨ (quietB P pu ops tr q || deepAt P ops tr q.1) = true) ∧ X := fun hp hr => by
      obtain ⟨h1, h2⟩ := pairsP_ok hr
      exact ⟨fun q hq => by rcases List.mem_cons.1 hq with rfl | hq; exact hp; exact h1 q hq, h2⟩
    unfold pairsP at h
    split at h
    · rename_i hb
      refine key (.inl ?_) h
      unfold pairB at hb
      unfold pairP
      cases e1 : ops[p.1]? with
      | none => simp [e1] at hb
      | some o =>
        cases e2 : tr[p.1]? with
        | none => simp [e1, e2] at hb
        | some si =>
          cases e3 : tr[p.2]? with
          | none => simp [e1, e2, e3] at hb
          | some sj =>
            cases e4 : tr[p.2 + 1]? with
            | none => simp [e1, e2, e3, e4] at hb
            | some sk =>
              cases e5 : vs[p.1]? with
              | none => simp [e1, e2, e3, e4, e5] at hb
              | some v =>
                rw [e1, e2, e3, e4, e5] at hb
                simp only at hb ⊢
                split
                · rename_i hw
                  rw [hw] at hb
                  simp only [Bool.not_true, Bool.false_or, Bool.and_eq_true] at hb
                  obtain ⟨b1, b2⟩ := hb
                  constructor
                  · split at b1
                    · rename_i u hu; rw [hu, vbeq_eq _ _ b1]; exact likeM_refl _
                    · cases b1
                  · split at b2
                    · rename_i u hu; rw [hu, vbeq_eq _ _ b2]; exact likeM_refl _
                    · cases b2
                · trivial
    · split at h
      · rename_i hq
        exact key (.inr hq) h
      · exact key (.inl h.1) h.2

theorem spanB_at {f : Nat → Bool} : ∀ {a n : Nat}, spanB f a n = true → ∀ k, a ≤ k → k < a + n → f k = true
  | a, 0, _, k, h1, h2 => by omega
  | a, n + 1, h, k, h1, h2 => by
    unfold spanB at h
    simp only [Bool.and_eq_true] at h
    by_cases e : k = a
    · subst e; exact h.1
    · exact spanB_at h.2 k (by omega) (by omega)
theorem heap_span {st : Nat → St} : ∀ {a n : Nat}, (∀ k, a ≤ k → k < a + n → (st (k + 1)).h = (st k).h) → ∀ k, a ≤ k → k ≤ a + n → (st k).h = (st a).h
  | a, 0, _, k, h1, h2 => by rw [show k = a by omega]
  | a, n + 1, h, k, h1, h2 => by
    by_cases e : k = a + (n + 1)
    · subst e
      have h3 := h (a + n) (by omega) (by omega)
      rw [show a + (n + 1) = a + n + 1 by omega, h3]
      exact heap_span (n := n) (fun k h1 h2 => h k h1 (by omega)) (a + n) (by omega) (by omega)
    · exact heap_span (n := n) (fun k h1 h2 => h k h1 (by omega)) k h1 (by omega)

theorem drawV_tri (hm : P.follows .mixedOrders = true) {gn rr : Oper → Bool} {tl : Oper → (Operand → Value) → Option Bool} {pu : FuncId → Option LFun} (hpu : PureOk P pu) {D : FuncId → Option (List Value → Hp → (Value → Hp → Prop) → Prop)} (hD : DrawOk P D) {call : Caller} (hc : CallOk P call) {ops : Array Oper} (hro : ROk ops) {s : St} {K : St → Prop} {id k : Nat} (hst : staticOk P ops = true)
    (e : drawV std P gn rr tl pu D call ops ops.toList s fun tr vs => pairsP std P pu ops tr vs (drawPairs P ops) (match tr[ops.size]? with | some s' => K s' | none => False)) : Tri P k (.region id ops true) s fun ex s' => ex = .normal ∧ K s' := by
  intro hk μ base a w R hcf hq
  obtain ⟨tr, vs, hrun, hK⟩ := drawV_ok hpu hD hc e
  obtain ⟨hp, hK⟩ := pairsP_ok hK
  obtain ⟨st, val, ht, hs0, htr, hvs, hD0⟩ := trace_fun hrun
  subst hs0
  rw [htr ops.size (Nat.le_refl _)] at hK
  have hquiet : ∀ k, quietAt P pu ops tr k = true → (st (k + 1)).h = (st k).h := by
    intro k hq
    unfold quietAt at hq
    split at hq
    case h_2 => cases hq
    rename_i o s1 ho hs1
    have hkl := (Array.getElem?_eq_some_iff.1 ho).1
    rw [htr k (by omega)] at hs1
    simp only [Option.some.injEq] at hs1
    subst hs1
    rcases (ht.step ho).1 with ⟨hw, _, hst'⟩ | ⟨_, _, h3⟩
    · rw [hw, Bool.not_true, Bool.false_or] at hq
      cases hst' with
      | T _ h _ => exact h
      | R _ h _ => exact h
      | N hk _ _ _ => rw [hk] at hq; cases hq
      | E he _ _ =>
        unfold isEff at he
        split at hq
        · rename_i hk; rw [hk] at he; cases he
        · rename_i hk; rw [hk] at he; cases he
        · rename_i hk; exact (hD0 k o ho hw).1 hk hq
        · cases hq
    · exact h3
  obtain ⟨hn, hcore⟩ := draw_core hm hro hst ht (fun i j oi oj hi hj hki hej hun hw => by
    have hmem : (i, j) ∈ drawPairs P ops := by
      unfold drawPairs
      rw [List.mem_flatMap]
      refine ⟨i, (mem_reads hi).2 (by unfold isRead; rw [hki]), ?_⟩
      rw [List.mem_map]
      exact ⟨j, List.mem_filter.2 ⟨(mem_effs hj).2 hej, hun⟩, rfl⟩
    rcases (hp _ hmem).symm with hq | h1
    · rw [Bool.or_eq_true] at hq
      rcases hq with hq | hq
      case inr =>
        have hil := (Array.getElem?_eq_some_iff.1 hi).1
        have hd : deepR P oi (st i) = true := by
          unfold deepAt at hq
          simp only [hi, htr i (by omega)] at hq
          exact hq
        have := (hD0 i oi hi hw).2 hd
        exact ⟨fun {μ base w ρ'} hr hrel => this _ hr hrel, fun {μ base w ρ'} hr hrel => this _ hr hrel⟩
      have hil := (Array.getElem?_eq_some_iff.1 hi).1
      have hsem : SemR P (evA (st i).tmps) oi (st i).h (val i) := by
        rcases (ht.step hi).1 with ⟨_, _, hst'⟩ | ⟨hw', _, _⟩
        · cases hst' with
          | T hk _ _ => rw [hki] at hk; cases hk
          | R _ _ h => exact h
          | N hk _ _ _ => rw [hki] at hk; cases hk
          | E he _ _ => unfold isEff at he; rw [hki] at he; cases he
        · rw [hw] at hw'; cases hw'
      have hh : (st j).h = (st i).h ∧ (st (j + 1)).h = (st i).h := by
        unfold quietB at hq
        simp only at hq
        split at hq
        · rename_i hle
          have hsp := heap_span (st := st) (a := i) (n := j - i + 1) fun k h1 h2 => hquiet k (spanB_at hq k h1 h2)
          exact ⟨hsp j (by omega) (by omega), hsp (j + 1) (by omega) (by omega)⟩
        · rename_i hle
          have hsp := heap_span (st := st) (a := j) (n := i - j) fun k h1 h2 => hquiet k (spanB_at hq k h1 h2)
          have h3 := hsp i (by omega) (by omega)
          exact ⟨h3.symm, (hsp (j + 1) (by omega) (by omega)).trans h3.symm⟩
      rw [hh.1, hh.2]
      exact ⟨fun {μ base w ρ'} hr hrel => hsem hr hrel, fun {μ base w ρ'} hr hrel => hsem hr hrel⟩
    have hil := (Array.getElem?_eq_some_iff.1 hi).1
    have hjl := (Array.getElem?_eq_some_iff.1 hj).1
    unfold pairP at h1
    simp only [hi, htr i (by omega), htr j (by omega), htr (j + 1) (by omega), hvs i hil, hw, if_true] at h1
    exact ⟨fun {μ base w ρ'} hr hrel => sameM_ok hki h1.1 hr hrel, fun {μ base w ρ'} hr hrel => sameM_ok hki h1.2 hr hrel⟩)
  refine hcore hcf.tmps hcf.defers hcf.rel (fun b h1 _ => hcf.free b h1) fun a' w' μ' so => ?_
  refine hq .normal (st ops.size) a' w' μ' ⟨rfl, hK⟩ (Nat.le_trans hk hn) ⟨⟨so.tmps, so.defers, so.sim.rel, fun b hb => ?_⟩, so.sim.fr, so.sim.own', fun i hi => ?_, so.sim.le.z, so.sim.fz⟩
  · by_cases e : μ' b = μ b
    · rw [e]; exact hcf.free b (by omega)
    · have := so.dom b e; omega
  · by_cases e : μ' i = μ i
    · exact e
    · have := so.dom i e; omega

theorem headOk_spec {k : Nat} {ρ : Rho} (h : headOk k ρ = true) : k ≤ ρ.length ∧ ∀ i, i < k → ρ[i]? = some i := by
  unfold headOk at h
  simp only [Bool.and_eq_true, decide_eq_true_eq, List.all_eq_true, List.mem_range, beq_iff_eq] at h
  exact h
theorem nodupB_spec : ∀ {l : List Nat}, nodupB l = true → l.Nodup
  | [], _ => List.nodup_nil
  | x :: l, h => by
    unfold nodupB at h
    simp only [Bool.and_eq_true, Bool.not_eq_true', List.contains_eq_mem, decide_eq_false_iff_not] at h
    exact List.nodup_cons.2 ⟨h.1, nodupB_spec h.2⟩

/-- At the head of a loop: what is not needed is forgotten. -/
theorem enter_ok {L : LSpec} {k : Nat} {s : St} {K : L.D → Prop} (e : enter L k s K) : ∃ d, K d ∧ ∀ {s0 : St}, L.sh.fill (L.fills d) = some s0 →
    ∀ {μ : Mu} {base : Nat} {a : Act} {w : World}, Cfg μ base s a w → ∃ μ0, Post k μ base s.h w s0 a w μ0 ∧ k ≤ s0.h.next := by
  unfold enter at e
  split at e
  · rename_i fs hm
    split at e
    · rename_i hc
      simp only [Bool.and_eq_true] at hc
      obtain ⟨d, rfl, hK⟩ := e
      refine ⟨d, hK, fun {s0} hf {μ base a w} hcf => ?_⟩
      obtain ⟨h1, h2, h3, h4⟩ := shape_ok hm hf (nodupB_spec hc.2) hcf.tmps hcf.rel hcf.free
      obtain ⟨h5, h6⟩ := headOk_spec hc.1
      refine ⟨_, ⟨⟨h2, hcf.defers, h3, fun b hb => ?_⟩, ⟨rfl, rfl, rfl, Nat.le_refl _, fun _ _ _ => rfl⟩, fun b p x hb hx => ?_, fun i hi => ?_, (muF_le hcf.rel _).z, fun c i a h => freeze_sim _ c i a h⟩, by omega⟩
      · show ((L.rho s)[b]?).bind μ.f = none
        rw [List.getElem?_eq_none (by omega)]; rfl
      · obtain ⟨b0, x0, h7, h8, h9⟩ := h4 b x p hx hb
        have hb : ((L.rho s)[b]?).bind μ.f = some p := hb
        rw [h7] at hb
        exact .inr ⟨b0, p, x0, hb, h8, h9.1, rfl⟩
      · show ((L.rho s)[i]?).bind μ.f = μ.f i
        rw [h6 i hi]; rfl
    · exact e.elim
  · exact e.elim

theorem enters_ok {k : Nat} {s : St} {K : (L : LSpec) → L.D → Prop} : ∀ {l : List LSpec}, enters k s K l → ∃ L, L ∈ l ∧ ∃ d : L.D, K L d ∧ ∀ {s0 : St}, L.sh.fill (L.fills d) = some s0 →
    ∀ {μ : Mu} {base : Nat} {a : Act} {w : World}, Cfg μ base s a w → ∃ μ0, Post k μ base s.h w s0 a w μ0 ∧ k ≤ s0.h.next
  | [], e => e.elim
  | L :: r, e => by
    unfold enters at e
    split at e
    · obtain ⟨d, h⟩ := enter_ok e
      exact ⟨L, List.mem_cons_self, d, h⟩
    · obtain ⟨L', h1, h2⟩ := enters_ok e
      exact ⟨L', List.mem_cons_of_mem _ h1, h2⟩
theorem eachL_get {F : LSpec → Prop} : ∀ {l : List LSpec}, eachL F l → ∀ L ∈ l, F L
  | [], _, L, h => by cases h
  | [L], e, L', h => by
    have : L' = L := by simpa using h
    subst this; exact e
  | L :: L2 :: r, e, L', h => by
    have e : F L ∧ eachL F (L2 :: r) := e
    rcases List.mem_cons.1 h with rfl | h
    · exact e.1
    · exact eachL_get e.2 L' h

theorem Tri.mono {k : Nat} {c : Code} {s : St} {Q Q' : Ex → St → Prop} (h : Tri P k c s Q) (hq : ∀ ex s', Q ex s' → Q' ex s') : Tri P k c s Q' :=
  fun hk {_ _ _ _ _} hcf hr => h hk hcf fun ex s' a' w' μ' h1 h2 h3 => hr ex s' a' w' μ' (hq ex s' h1) h2 h3

theorem tri_here {k : Nat} {c : Code} {s : St} {ex : Ex} {K : Ex → St → Prop} (h : ∀ {R : Exit → Act → World → Prop} {a : Act} {w : World}, R (exOf ex) a w → c.wp P R a w) (e : K ex s) : Tri P k c s K :=
  fun hk {_ _ a w _} hcf hq => h (hq ex s a w _ e hk (Post.refl hcf))

/-- A loop from the head of a round. -/
def TriL (P : Program) (k : Nat) (c : Code) (s : St) (Q : Ex → St → Prop) : Prop :=
  k ≤ s.h.next → ∀ {μ : Mu} {base : Nat} {a : Act} {w : World} {R : Exit → Act → World → Prop}, Cfg μ base s a w →
    (∀ ex s' a' w' μ', Q ex s' → k ≤ s'.h.next → Post k μ base s.h w s' a' w' μ' → R (exOf ex) a' w') → wpLoop P c R a w

/-- THE EVALUATOR THAT ASKS IS SOUND. -/
theorem runV_ok (hP : ProgOk P) {C : Con} (hC : ConOk P C) {call : Caller} (hcall : CallOk P call) : ∀ (n : Nat),
    (∀ (LS : Loops) (kp : Nat) (c : Code) (s : St) (K : Ex → St → Prop), OkCode c → runV std P C call n LS kp c s K → ∀ k, k ≤ kp → Tri P k c s K) ∧
    (∀ (LS : Loops) (kp : Nat) (c : Code) (s : St) (K : Ex → St → Prop), OkCode c → runV std P C call n LS kp (.loop c) s K → ∀ k, k ≤ kp → TriL P k c s K) := by
  intro n
  induction n with
  | zero => exact ⟨fun _ _ _ _ _ _ e => (by unfold runV at e; exact e.elim), fun _ _ _ _ _ _ e => (by unfold runV at e; exact e.elim)⟩
  | succ n ihn =>
    obtain ⟨ih, ihl⟩ := ihn
    have hcv : CallVOk P (callWithV P C (runV std P C call n noLoops)) := by
      intro f args h K e
      unfold callWithV at e
      split at e
      · rename_i g hg
        exact hC.con f g hg args h K e
      · split at e
        · exact e.elim
        · rename_i fn hfn
          intro μ base w args' hl hrel hfree
          split at e
          · rename_i hb
            split at e
            · rename_i v h' he
              obtain ⟨v', w', μ', h1, ho⟩ := externA_run he hl hrel (fun _ => hfree h.next (Nat.le_refl _)) hfn hb
              refine .inl ⟨v', w', h1, v, h', μ', e, ho.val, ho.sim.rel, fun b hb => ?_, ho.sim.fr, ho.sim.own', fun i hi => ?_, ho.next, ho.sim.le.z, ho.sim.fz⟩
              · by_cases e : μ' b = μ b
                · rw [e]; exact hfree b (Nat.le_trans ho.next hb)
                · have := ho.dom b e; omega
              · by_cases e : μ' i = μ i
                · exact e
                · have := ho.dom i e; omega
            · exact e.elim
          · rename_i c hb
            have htr : TR μ (args ++ List.replicate (fn.ntmps - args.length) undef) (args' ++ Array.replicate (fn.ntmps - args'.size) undef) := by
              unfold TR
              rw [Array.toList_append, Array.toList_replicate]
              have : args.length = args'.size := by rw [hl.1, Array.length_toList]
              rw [this]
              exact hl.append (All2.replicate _ (.undef μ))
            refine .inr ⟨?_, ?_⟩
            · have hn := hP.name hfn
              simp [callFunc, hfn, hn, hb]
            · refine calls_of_wp hfn hb ?_
              refine ih noLoops h.next c _ _ (hP.code hfn hb) e h.next (Nat.le_refl _) (Nat.le_refl _) ⟨htr, rfl, hrel, hfree⟩ fun ex s' a' w' μ' hK hk hp => ?_
              have key : ∀ {v : Value}, resultsA P fn s' = some v → K v s'.h → ∃ v', (results fn a'.tmps).run P w' = .ok v' w' ∧ ∃ v h' μ', K v h' ∧ COut μ base h w v h' v' w' μ' := by
                intro v hres hK
                obtain ⟨v', h2, h3⟩ := resultsA_run hres hp.cfg.tmps hp.cfg.rel
                exact ⟨v', h2, v, s'.h, μ', hK, h3, hp.cfg.rel, hp.cfg.free, hp.fr, hp.own, hp.prot, hk, hp.zle, hp.fz⟩
              unfold resK at hK
              split at hK
              · split at hK
                · rename_i v hres
                  obtain ⟨v', h2, h3⟩ := key hres hK
                  exact ⟨hp.cfg.defers, v', h2, v', rfl, h3⟩
                · exact hK.elim
              · split at hK
                · rename_i v hres
                  obtain ⟨v', h2, h3⟩ := key hres hK
                  exact ⟨hp.cfg.defers, v', h2, v', rfl, h3⟩
                · exact hK.elim
              · exact hK.elim
    have hl : ∀ (LS : Loops) (kp : Nat) (c : Code) (s : St) (K : Ex → St → Prop), OkCode c → runV std P C call (n + 1) LS kp (.loop c) s K → ∀ k, k ≤ kp → TriL P k c s K := by
      intro LS kp b s K hok e k hk hkn μ base a w R hcf hq
      rw [runV] at e
      refine wpLoop_round (ih LS kp b s _ hok e k hk hkn hcf fun ex s1 a1 w1 μ1 h1 h2 h3 => ?_)
      cases ex with
      | normal => exact ihl LS kp b s1 K hok h1 k hk h2 h3.cfg fun ex s' a' w' μ' h4 h5 h6 => hq ex s' a' w' μ' h4 h5 (h3.trans h6)
      | exit id => exact hq _ s1 a1 w1 μ1 h1 h2 h3
      | goto l => exact hq _ s1 a1 w1 μ1 h1 h2 h3
      | ret => exact hq _ s1 a1 w1 μ1 h1 h2 h3
    refine ⟨?_, hl⟩
    intro LS kp c s K hok e k hk
    have plainBlock : ∀ {id : Nat} {b : Code}, OkCode b → (runV std P C call n LS kp b s fun ex s1 => match ex with
        | .exit id' => if id' = id then K .normal s1 else K (.exit id') s1
        | .normal => K .normal s1
        | .goto l => K (.goto l) s1
        | .ret => K .ret s1) → Tri P k (.block id b) s K := by
      intro id b hokb e hkn μ base a w R hcf hq
      refine wp_block (ih LS kp b s _ hokb e k hk hkn hcf fun ex s1 a1 w1 μ1 h1 h2 h3 => ?_)
      cases ex with
      | exit id' =>
        simp only at h1
        split at h1
        · rename_i hid
          simp only [exOf, Exit.inBlock, hid, if_true]
          exact hq _ s1 a1 w1 μ1 h1 h2 h3
        · rename_i hid
          simp only [exOf, Exit.inBlock, hid, if_false]
          exact hq _ s1 a1 w1 μ1 h1 h2 h3
      | normal => exact hq _ s1 a1 w1 μ1 h1 h2 h3
      | goto l => exact hq _ s1 a1 w1 μ1 h1 h2 h3
      | ret => exact hq _ s1 a1 w1 μ1 h1 h2 h3
    unfold runV at e
    split at e
    · exact tri_here (ex := .normal) (fun h => wp_skip h) e
    · exact tri_here (ex := .normal) (fun h => wp_label h) e
    · exact tri_here (ex := .ret) (fun h => wp_ret h) e
    · exact tri_here (ex := .exit _) (fun h => wp_exit h) e
    · exact tri_here (ex := .goto _) (fun h => wp_goto h) e
    · -- a region
      rename_i id ops draw
      split at e
      · rename_i hd
        subst hd
        split at e
        · rename_i hst
          exact (drawV_tri hP.mixed hC.pures hC.draws hcall (hok rfl) hst e).mono fun ex s' h => by rw [h.1]; exact h.2
        · exact e.elim
      · rename_i hd
        have hd' : draw = false := by simpa using hd
        subst hd'
        intro hkn μ base a w R hcf hq
        exact wp_region_list (opsV_ok hcv e hkn hcf fun s' a' w' μ' h1 h2 h3 => hq .normal s' a' w' μ' h1 h2 h3)
    · -- one behind the other
      rename_i a b
      intro hkn μ base a1 w R hcf hq
      refine wp_seq (ih LS kp a s _ hok.1 e k hk hkn hcf fun ex s1 a2 w2 μ1 h1 h2 h3 => ?_)
      cases ex with
      | normal => exact ih LS kp b s1 K hok.2 h1 k hk h2 h3.cfg fun ex s' a' w' μ' h4 h5 h6 => hq ex s' a' w' μ' h4 h5 (h3.trans h6)
      | exit id => exact hq _ s1 a2 w2 μ1 h1 h2 h3
      | goto l => exact hq _ s1 a2 w2 μ1 h1 h2 h3
      | ret => exact hq _ s1 a2 w2 μ1 h1 h2 h3
    · -- a test
      rename_i c a b
      split at e
      · rename_i hop
        split at e
        · rename_i t hc
          have hb : evA s.tmps c = .bool t := by
            unfold condA at hc
            split at hc
            · rename_i b' hb'; simp at hc; subst hc; exact hb'
            · cases hc
          intro hkn μ base a1 w R hcf hq
          have hev := eval_rel (μ := μ) hcf.tmps hop
          rw [hb] at hev
          exact wp_cond hev.inv_bool (ih LS kp (if t then a else b) s K (by cases t <;> first | exact hok.1 | exact hok.2) e k hk hkn hcf hq)
        · exact e.elim
      · exact e.elim
    · -- a block
      rename_i id b
      split at e
      · rename_i Ls b hL
        obtain ⟨L0, hL0, d0, ⟨hI0, hround'⟩, hent⟩ := enters_ok e
        have hround := eachL_get hround'
        -- the rounds, by what falls
        have loop : ∀ (m : Nat) (L : LSpec) (_ : L ∈ Ls) (d : L.D), L.m d ≤ m → L.I d → ghR L0 d0 L d → ∀ {s0 : St}, L.sh.fill (L.fills d) = some s0 → k ≤ s0.h.next → ∀ {μ : Mu} {base : Nat} {a : Act} {w : World} {R : Exit → Act → World → Prop}, Cfg μ base s0 a w →
            (∀ ex s' a' w' μ', (match ex with | .exit id' => if id' = id then K .normal s' else K (.exit id') s' | .normal => False | .goto l => K (.goto l) s' | .ret => K .ret s') → k ≤ s'.h.next → Post k μ base s0.h w s' a' w' μ' → R (exOf ex) a' w') → wpLoop P b R a w := by
          intro m
          induction m with
          | zero =>
            intro L hLm d hm hI hgh s0 hf hkn μ base a w R hcf hq
            have e := ghP_get (hround L hLm d hI) hgh
            rw [hf] at e
            simp only at e
            refine wpLoop_round (ih LS kp b s0 _ hok e k hk hkn hcf fun ex s1 a1 w1 μ1 h1 h2 h3 => ?_)
            cases ex with
            | normal =>
              obtain ⟨L', _, d', ⟨hm', _⟩, _⟩ := enters_ok h1
              omega
            | exit id' => exact hq (.exit id') s1 a1 w1 μ1 h1 h2 h3
            | goto l => exact hq _ s1 a1 w1 μ1 h1 h2 h3
            | ret => exact hq _ s1 a1 w1 μ1 h1 h2 h3
          | succ m ihm =>
            intro L hLm d hm hI hgh s0 hf hkn μ base a w R hcf hq
            have e := ghP_get (hround L hLm d hI) hgh
            rw [hf] at e
            simp only at e
            refine wpLoop_round (ih LS kp b s0 _ hok e k hk hkn hcf fun ex s1 a1 w1 μ1 h1 h2 h3 => ?_)
            cases ex with
            | normal =>
              obtain ⟨L', hLm', d', ⟨hm', hI'⟩, hent'⟩ := enters_ok h1
              obtain ⟨hgh', hI'⟩ := ghC_get hI'
              have e' := ghP_get (hround L' hLm' d' hI') hgh'
              cases hf' : L'.sh.fill (L'.fills d') with
              | none => rw [hf'] at e'; exact e'.elim
              | some s0' =>
                obtain ⟨μ0, hp0, hk0⟩ := hent' hf' h3.cfg
                exact ihm L' hLm' d' (by omega) hI' hgh' hf' (by omega) (hp0.cfg) fun ex s' a' w' μ' h4 h5 h6 => hq ex s' a' w' μ' h4 h5 ((h3.trans (hp0.weaken hk)).trans h6)
            | exit id' => exact hq (.exit id') s1 a1 w1 μ1 h1 h2 h3
            | goto l => exact hq _ s1 a1 w1 μ1 h1 h2 h3
            | ret => exact hq _ s1 a1 w1 μ1 h1 h2 h3
        intro hkn μ base a w R hcf hq
        have e' := ghP_get (hround L0 hL0 d0 hI0) (ghR_refl L0 d0)
        cases hf : L0.sh.fill (L0.fills d0) with
        | none => rw [hf] at e'; exact e'.elim
        | some s0 =>
          obtain ⟨μ0, hp0, hk0⟩ := hent hf hcf
          refine wp_block (wp_of_wpLoop (loop (L0.m d0) L0 hL0 d0 (Nat.le_refl _) hI0 (ghR_refl L0 d0) hf (by omega) hp0.cfg fun ex s' a' w' μ' h4 h5 h6 => ?_))
          have hp := (hp0.weaken hk).trans h6
          cases ex with
          | exit id' =>
            simp only at h4
            split at h4
            · rename_i hid
              simp only [exOf, Exit.inBlock, hid, if_true]
              exact hq _ s' a' w' μ' h4 h5 hp
            · rename_i hid
              simp only [exOf, Exit.inBlock, hid, if_false]
              exact hq _ s' a' w' μ' h4 h5 hp
          | normal => exact h4.elim
          | goto l => exact hq _ s' a' w' μ' h4 h5 hp
          | ret => exact hq _ s' a' w' μ' h4 h5 hp
      · exact plainBlock hok e
    · -- a loop
      rename_i b
      have h1 := hl LS kp b s K hok (by rw [runV]; exact e) k hk
      exact fun hkn {μ base a w R} hcf hq => wp_of_wpLoop (h1 hkn hcf hq)
    · -- a scope
      rename_i b
      intro hkn μ base a w R hcf hq
      refine wp_scope_fwd (ih LS kp b s _ hok e k hk hkn hcf fun ex s1 a1 w1 μ1 h1 h2 h3 => ?_)
      cases ex with
      | normal => exact hq _ s1 a1 w1 μ1 h1 h2 h3
      | exit id => exact hq _ s1 a1 w1 μ1 h1 h2 h3
      | ret => exact hq _ s1 a1 w1 μ1 h1 h2 h3
      | goto l =>
        simp only at h1
        split at h1
        · rename_i rest hl
          refine ⟨rest, hl, ih LS kp rest s1 _ (okCode_label hl hok) h1 k hk h2 h3.cfg fun ex s2 a2 w2 μ2 h4 h5 h6 => ?_⟩
          cases ex with
          | goto _ => exact h4.elim
          | normal => exact hq _ s2 a2 w2 μ2 h4 h5 (h3.trans h6)
          | exit id => exact hq _ s2 a2 w2 μ2 h4 h5 (h3.trans h6)
          | ret => exact hq _ s2 a2 w2 μ2 h4 h5 (h3.trans h6)
        · exact h1.elim
    · exact e.elim
end
end Go.Abs
end
section
namespace Go.Abs
open Go

section
variable {μ0 μ1 : Mu} {f : Nat → Nat}

structure RenOk (μ0 μ1 : Mu) (f : Nat → Nat) : Prop where
  f : ∀ j p, μ0 j = some p → μ1 (f j) = some p
  z : ∀ c i a, μ0.z c i = some a → μ1.z c i = some a
theorem VR0.inv_deep {μ : Mu} {z v' : Value} {xs : List Value} (h : VR0 μ (dsl z xs) v') : DR μ.z (dsl z xs) v' := deep_inv (v := dsl z xs) (by unfold asDeep dsl; rfl) (.zero h)
theorem VR0.inv_osl {μ : Mu} {z v' : Value} {xs : List Value} {b : Nat} (h : VR0 μ (Abs.osl z xs b) v') : ∃ a n k, v' = .slice a n k ∧ DR μ.z (dsl z xs) v' ∧ xs.length = n ∧ (k = n ∨ ∃ p c o, a = some ⟨c, o, none⟩ ∧ μ b = some p ∧ p.c = c ∧ p.s = o + n * z.cells.size ∧ o + k * z.cells.size ≤ p.N) := by
  generalize hg : Abs.osl z xs b = d at h
  cases h with
  | osl hd h1 h2 => simp [Abs.osl, Abs.osq] at hg; obtain ⟨⟨rfl, rfl, rfl⟩, h3⟩ := hg; subst h3; exact ⟨_, _, _, rfl, hd, h1, h2.imp id fun h => h.2⟩
  | plain hp => subst hg; simp [plain1, Abs.osl, Abs.osq] at hp
  | mark _ _ => simp [mk, Abs.osl, Abs.osq] at hg
  | deep _ => simp [dsl, Abs.osl, Abs.osq] at hg
  | fptr _ _ _ => simp [Abs.fptr, Abs.osl, Abs.osq] at hg
  | rptr _ => simp [Abs.rptr, Abs.osl, Abs.osq] at hg
  | mbool => simp [mkb, Abs.osl, Abs.osq] at hg
  | _ => cases hg
theorem ren0 (hμ : RenOk μ0 μ1 f) {s : S0} {fs r : List Filler} {v0 : Value} (h : s.fill id fs = some (v0, r)) : ∃ v1, s.fill f fs = some (v1, r) ∧ ∀ v', VR0 μ0 v0 v' → VR0 μ1 v1 v' := by
  have sl : ∀ {j o n k : Nat} {v' : Value}, VR0 μ0 (.slice (some ⟨j, o, none⟩) n k) v' → VR0 μ1 (.slice (some ⟨f j, o, none⟩) n k) v' := by
    intro j o n k v' r
    cases r with
    | slice hp h1 h2 => exact .slice (hμ.f _ _ hp) h1 h2
    | slice0 hp h1 => exact .slice0 (hμ.f _ _ hp) h1
    | plain hp => simp [plain1] at hp
  cases s with
  | lit u =>
    simp only [S0.fill] at h ⊢
    split at h
    · rename_i hp
      simp only [Option.some.injEq, Prod.mk.injEq] at h
      obtain ⟨rfl, rfl⟩ := h
      exact ⟨_, if_pos hp, fun v' r => by rw [r.eq_of_plain hp]; exact .plain hp⟩
    · cases h
  | hole =>
    cases fs with
    | nil => simp [S0.fill] at h
    | cons x fs =>
      cases x with
      | val v =>
        simp only [S0.fill] at h ⊢
        split at h
        · rename_i hs
          obtain ⟨hm, hp⟩ := isScal_mark hs
          simp only [Option.some.injEq, Prod.mk.injEq] at h
          obtain ⟨rfl, rfl⟩ := h
          refine ⟨_, if_pos hs, fun v' r => ?_⟩
          have h1 := r.den
          rw [den_mk hm] at h1
          rw [h1.eq_of_plain hp]
          exact .mark (.plain hp) hm
        · cases h
      | row _ => simp [S0.fill] at h
      | sl _ _ => simp [S0.fill] at h
      | dl _ => simp [S0.fill] at h
      | me _ => simp [S0.fill] at h
  | ptr j o =>
    simp only [S0.fill, id, Option.some.injEq, Prod.mk.injEq] at h ⊢
    obtain ⟨rfl, rfl⟩ := h
    refine ⟨_, ⟨rfl, rfl⟩, fun v' r => ?_⟩
    cases r with
    | ptr hp => exact .ptr (hμ.f _ _ hp)
    | plain hp => simp [plain1] at hp
  | sl j cap =>
    cases fs with
    | nil => simp [S0.fill] at h
    | cons x fs =>
      cases x with
      | sl o n =>
        simp only [S0.fill, id, Option.some.injEq, Prod.mk.injEq] at h ⊢
        obtain ⟨rfl, rfl⟩ := h
        refine ⟨_, ⟨rfl, rfl⟩, fun v' r => ?_⟩
        cases r with
        | mark r hm => exact .mark (sl r) rfl
        | plain hp => simp [plain1, mk] at hp
      | row _ => simp [S0.fill] at h
      | val _ => simp [S0.fill] at h
      | dl _ => simp [S0.fill] at h
      | me _ => simp [S0.fill] at h
  | csl j o n cap =>
    simp only [S0.fill, id, Option.some.injEq, Prod.mk.injEq] at h ⊢
    obtain ⟨rfl, rfl⟩ := h
    exact ⟨_, ⟨rfl, rfl⟩, fun v' r => sl r⟩
  | map j =>
    simp only [S0.fill, id, Option.some.injEq, Prod.mk.injEq] at h ⊢
    obtain ⟨rfl, rfl⟩ := h
    refine ⟨_, ⟨rfl, rfl⟩, fun v' r => ?_⟩
    cases r with
    | map hp => exact .map (hμ.f _ _ hp)
    | plain hp => simp [plain1] at hp
  | deep z =>
    cases fs with
    | nil => simp [S0.fill] at h
    | cons x fs =>
      cases x with
      | dl xs =>
        simp only [S0.fill, Option.some.injEq, Prod.mk.injEq] at h ⊢
        obtain ⟨rfl, rfl⟩ := h
        exact ⟨_, ⟨rfl, rfl⟩, fun v' r => .deep (r.inv_deep.mono hμ.z)⟩
      | _ => simp [S0.fill] at h
  | osl j z =>
    cases fs with
    | nil => simp [S0.fill] at h
    | cons x fs =>
      cases x with
      | dl xs =>
        simp only [S0.fill, id, Option.some.injEq, Prod.mk.injEq] at h ⊢
        obtain ⟨rfl, rfl⟩ := h
        refine ⟨_, ⟨rfl, rfl⟩, fun v' r => ?_⟩
        obtain ⟨a, n, k, rfl, h1, h2, h3⟩ := r.inv_osl
        exact .osl (h1.mono hμ.z) h2 (h3.imp id fun ⟨p, c, o, h4, h5, h6⟩ => ⟨rfl, p, c, o, h4, hμ.f _ _ h5, h6⟩)
      | _ => simp [S0.fill] at h
  | boo =>
    cases fs with
    | nil => simp [S0.fill] at h
    | cons x fs =>
      cases x with
      | val v =>
        simp only [S0.fill, Option.some.injEq, Prod.mk.injEq] at h ⊢
        obtain ⟨rfl, rfl⟩ := h
        exact ⟨_, ⟨rfl, rfl⟩, fun v' r => by rw [mkb_inv (f := #[.bool (dbool v)]) (y := #[]) rfl r]; exact .mbool⟩
      | _ => simp [S0.fill] at h

theorem renL {α β : Type} {F G : α → List Filler → Option (β × List Filler)} {R : β → β → Prop} (hok : ∀ (a : α) (fs r : List Filler) (v0 : β), F a fs = some (v0, r) → ∃ v1, G a fs = some (v1, r) ∧ R v0 v1) :
    ∀ {l : List α} {fs r : List Filler} {l0 : List β}, fillL F l fs = some (l0, r) → ∃ l1, fillL G l fs = some (l1, r) ∧ All2 R l0 l1
  | [], fs, r, l0, h => by
    simp only [fillL, Option.some.injEq, Prod.mk.injEq] at h
    obtain ⟨rfl, rfl⟩ := h
    exact ⟨[], rfl, All2.nil⟩
  | a :: l, fs, r, l0, h => by
    unfold fillL at h ⊢
    split at h
    · rename_i b fs1 hb
      split at h
      · rename_i bs fs2 hbs
        simp only [Option.some.injEq, Prod.mk.injEq] at h
        obtain ⟨rfl, rfl⟩ := h
        obtain ⟨v1, h1, h2⟩ := hok _ _ _ _ hb
        obtain ⟨l1, h3, h4⟩ := renL hok hbs
        rw [h1]
        simp only [h3]
        exact ⟨_, rfl, All2.cons h2 h4⟩
      · cases h
    · cases h
theorem all2_ren {R R' : Value → Value → Prop} {l0 l1 : List Value} (h : All2 (fun v0 v1 => ∀ v', R v0 v' → R' v1 v') l0 l1) {vs : List Value} (hv : All2 R l0 vs) : All2 R' l1 vs := by
  refine ⟨by rw [← h.1, hv.1], fun i v hi => ?_⟩
  rcases h.get i with ⟨_, e⟩ | ⟨a, b, e1, e2, r⟩
  · rw [hi] at e; cases e
  · rw [hi] at e2; simp at e2; subst e2
    obtain ⟨v', h1, h2⟩ := hv.2 i a e1
    exact ⟨v', h1, r v' h2⟩

theorem ren0b {s : S0} {fs r : List Filler} {v0 : Value} (h : s.fill id fs = some (v0, r)) : (plain1 v0 = true ∧ s.fill f fs = some (v0, r)) ∨ isBasic v0 = true := by
  cases s with
  | lit u =>
    simp only [S0.fill] at h ⊢
    split at h
    · rename_i hp
      simp only [Option.some.injEq, Prod.mk.injEq] at h
      obtain ⟨rfl, rfl⟩ := h
      exact .inl ⟨hp, if_pos hp⟩
    · cases h
  | hole =>
    right
    unfold S0.fill at h
    repeat' split at h
    all_goals first
      | (cases h; done)
      | (simp only [Option.some.injEq, Prod.mk.injEq] at h; obtain ⟨rfl, rfl⟩ := h; rfl)
      | skip
    all_goals simp_all
  | ptr j o => simp only [S0.fill, Option.some.injEq, Prod.mk.injEq] at h; obtain ⟨rfl, rfl⟩ := h; exact .inr rfl
  | csl j o n cap => simp only [S0.fill, Option.some.injEq, Prod.mk.injEq] at h; obtain ⟨rfl, rfl⟩ := h; exact .inr rfl
  | map j => simp only [S0.fill, Option.some.injEq, Prod.mk.injEq] at h; obtain ⟨rfl, rfl⟩ := h; exact .inr rfl
  | sl j cap =>
    right
    cases fs with
    | nil => simp [S0.fill] at h
    | cons x fs =>
      cases x <;> simp [S0.fill] at h
      obtain ⟨rfl, rfl⟩ := h; rfl
  | deep z =>
    right
    cases fs with
    | nil => simp [S0.fill] at h
    | cons x fs =>
      cases x <;> simp [S0.fill] at h
      obtain ⟨rfl, rfl⟩ := h; rfl
  | osl j z =>
    right
    cases fs with
    | nil => simp [S0.fill] at h
    | cons x fs =>
      cases x <;> simp [S0.fill] at h
      obtain ⟨rfl, rfl⟩ := h; rfl
  | boo =>
    right
    cases fs with
    | nil => simp [S0.fill] at h
    | cons x fs =>
      cases x <;> simp [S0.fill] at h
      obtain ⟨rfl, rfl⟩ := h; rfl

theorem ren1 (hμ : RenOk μ0 μ1 f) {s : S1} {fs r : List Filler} {v0 : Value} (h : s.fill id fs = some (v0, r)) : ∃ v1, s.fill f fs = some (v1, r) ∧ ∀ v', VR1 μ0 v0 v' → VR1 μ1 v1 v' := by
  cases s with
  | zero s =>
    have h : s.fill id fs = some (v0, r) := h
    rcases ren0b (f := f) h with ⟨hp, h1⟩ | hb
    · exact ⟨v0, h1, fun v' r => by rw [r.eq_of_plain hp]; exact .refl_plain hp⟩
    · obtain ⟨v1, h1, h2⟩ := ren0 hμ h
      exact ⟨v1, h1, fun v' r => .zero (h2 v' (r.zero_of_basic hb))⟩
  | func g a b =>
    unfold S1.fill at h ⊢
    simp only at h ⊢
    split at h
    case isTrue => cases h
    rename_i hyi
    rw [if_neg hyi]
    split at h
    · rename_i x fs1 hx
      split at h
      · rename_i y fs2 hy
        simp only [Option.some.injEq, Prod.mk.injEq] at h
        obtain ⟨rfl, rfl⟩ := h
        obtain ⟨l1, h1, h2⟩ := renL (F := S0.fill id) (G := S0.fill f) (R := fun v0 v1 => ∀ v', VR0 μ0 v0 v' → VR0 μ1 v1 v') (fun s fs r v0 h => ren0 hμ h) hx
        obtain ⟨l2, h3, h4⟩ := renL (F := S0.fill id) (G := S0.fill f) (R := fun v0 v1 => ∀ v', VR0 μ0 v0 v' → VR0 μ1 v1 v') (fun s fs r v0 h => ren0 hμ h) hy
        rw [h1]
        simp only [h3]
        refine ⟨_, rfl, fun v' r => ?_⟩
        cases r with
        | func h0 h5 h6 => exact .func h0 (all2_ren h2 h5) (all2_ren h4 h6)
        | zero r =>
          cases r with
          | plain hp =>
            simp only [plain1, Bool.and_eq_true, Array.isEmpty_iff] at hp
            obtain ⟨e1, e2⟩ := hp
            have e1 : x = [] := by simpa using e1
            have e2 : y = [] := by simpa using e2
            subst e1; subst e2
            have := h2.inv_nil; subst this
            have := h4.inv_nil; subst this
            exact .refl_plain rfl
          | mark r hm => simp [isYield] at hyi
          | deep _ => simp [isYield] at hyi
          | osl _ _ _ => simp [isYield] at hyi
          | fptr _ _ _ => simp [isYield] at hyi
          | rptr _ => simp [isYield] at hyi
          | mbool => simp [isYield] at hyi
      · cases h
    · cases h
  | iface t s =>
    unfold S1.fill at h ⊢
    simp only at h ⊢
    split at h
    · rename_i v fs1 hv
      simp only [Option.some.injEq, Prod.mk.injEq] at h
      obtain ⟨rfl, rfl⟩ := h
      obtain ⟨v1, h1, h2⟩ := ren0 hμ hv
      rw [h1]
      refine ⟨_, rfl, fun v' r => ?_⟩
      cases r with
      | iface r => exact .iface (h2 _ r)
      | zero r => cases r with
        | plain hp => simp [plain1] at hp
    · cases h

theorem renA (hμ : RenOk μ0 μ1 f) {s : SA} {fs r : List Filler} {v0 : Value} (h : s.fill id fs = some (v0, r)) : ∃ v1, s.fill f fs = some (v1, r) ∧ ∀ v', VRa μ0 v0 v' → VRa μ1 v1 v' := by
  cases s with
  | one s =>
    have h : s.fill id fs = some (v0, r) := h
    obtain ⟨v1, h1, h2⟩ := ren1 hμ h
    refine ⟨v1, h1, fun v' r' => .one (h2 v' ?_)⟩
    cases r' with
    | one r => exact r
    | agg _ =>
      exfalso
      cases s with
      | zero s =>
        have h : s.fill id fs = _ := h
        rcases ren0b (f := f) h with ⟨hp, _⟩ | hb
        · simp [plain1] at hp
        · simp [isBasic] at hb
      | func g a b =>
        unfold S1.fill at h
        simp only at h
        repeat' split at h
        all_goals first | (cases h; done) | simp at h
      | iface t s =>
        unfold S1.fill at h
        simp only at h
        repeat' split at h
        all_goals first | (cases h; done) | simp at h
  | agg l =>
    unfold SA.fill at h ⊢
    simp only at h ⊢
    split at h
    · rename_i x fs1 hx
      simp only [Option.some.injEq, Prod.mk.injEq] at h
      obtain ⟨rfl, rfl⟩ := h
      obtain ⟨l1, h1, h2⟩ := renL (F := S1.fill id) (G := S1.fill f) (R := fun v0 v1 => ∀ v', VR1 μ0 v0 v' → VR1 μ1 v1 v') (fun s fs r v0 h => ren1 hμ h) hx
      rw [h1]
      refine ⟨_, rfl, fun v' r => ?_⟩
      obtain ⟨ys, rfl, hys⟩ := (VR.a r).inv_agg
      exact .agg (all2_ren h2 hys)
    · cases h

theorem renB (hμ : RenOk μ0 μ1 f) {s : SB} {fs r : List Filler} {x0 : Blk} (h : s.fill id fs = some (x0, r)) : ∃ x1, s.fill f fs = some (x1, r) ∧ (∀ {base : Nat} {w : World} {p : Pl}, BR μ0 base w p x0 → BR μ1 base w p x1) ∧ ownB x1 = ownB x0 := by
  cases s with
  | cells l ro =>
    unfold SB.fill at h ⊢
    simp only at h ⊢
    split at h
    · rename_i x fs1 hx
      simp only [Option.some.injEq, Prod.mk.injEq] at h
      obtain ⟨rfl, rfl⟩ := h
      obtain ⟨l1, h1, h2⟩ := renL (F := S1.fill id) (G := S1.fill f) (R := fun v0 v1 => ∀ v', VR1 μ0 v0 v' → VR1 μ1 v1 v') (fun s fs r v0 h => ren1 hμ h) hx
      rw [h1]
      refine ⟨_, rfl, fun {base w p} hb => ?_, rfl⟩
      obtain ⟨arr, e, fr, h3, h4, h5, h6⟩ := hb
      refine ⟨arr, e, fr, h3, h4, fun i v hi => ?_, fun h => by rw [← h2.1]; exact h6 h⟩
      rcases h2.get i with ⟨_, e⟩ | ⟨a, b, e1, e2, r⟩
      · rw [hi] at e; cases e
      · rw [hi] at e2; simp at e2; subst e2
        obtain ⟨v', h7, h8⟩ := h5 i a e1
        exact ⟨v', h7, r v' h8⟩
    · cases h
  | row like ro =>
    unfold SB.fill at h ⊢
    simp only at h ⊢
    split at h
    · rename_i rr fs1
      simp only [Option.some.injEq, Prod.mk.injEq] at h
      obtain ⟨rfl, rfl⟩ := h
      refine ⟨_, rfl, fun {base w p} hb => ?_, rfl⟩
      obtain ⟨arr, e, fr, h3, h4, h5, h6⟩ := hb
      refine ⟨arr, e, fr, h3, h4, fun i v hi => ?_, h6⟩
      obtain ⟨v', h7, h8⟩ := h5 i v hi
      exact ⟨v', h7, row_keep hμ.z (List.mem_of_getElem? hi) h8⟩
    · cases h
  | smap kz vz =>
    unfold SB.fill at h ⊢
    simp only at h ⊢
    split at h
    · rename_i es fs1
      simp only [Option.some.injEq, Prod.mk.injEq] at h
      obtain ⟨rfl, rfl⟩ := h
      refine ⟨_, rfl, fun {base w p} hb => ?_, rfl⟩
      obtain ⟨es', ck, h3, h4, h5⟩ := hb
      exact ⟨es', ck, h3, h4.mono fun _ _ _ r => r.mono hμ.z, h5⟩
    · cases h
  | tok =>
    have h : some (Blk.cells [] false, fs) = some (x0, r) := h
    simp only [Option.some.injEq, Prod.mk.injEq] at h
    obtain ⟨rfl, rfl⟩ := h
    refine ⟨.cells [] false, rfl, fun {base w p} hb => ?_, rfl⟩
    obtain ⟨arr, e, fr, h3, h4, h5, h6⟩ := hb
    exact ⟨arr, e, fr, h3, h4, fun i v hi => by simp at hi, h6⟩
  | map l ck =>
    unfold SB.fill at h ⊢
    simp only at h ⊢
    split at h
    · rename_i x fs1 hx
      simp only [Option.some.injEq, Prod.mk.injEq] at h
      obtain ⟨rfl, rfl⟩ := h
      obtain ⟨l1, h1, h2⟩ := renL (F := entryFill id) (G := entryFill f) (R := fun (e0 e1 : MapEntry) => e1.key = e0.key ∧ e1.born = e0.born ∧ ∀ v', VRa μ0 e0.val v' → VRa μ1 e1.val v') (fun s fs r v0 h => by
        unfold entryFill at h ⊢
        split at h
        · rename_i v fs1 hv
          simp only [Option.some.injEq, Prod.mk.injEq] at h
          obtain ⟨rfl, rfl⟩ := h
          obtain ⟨v1, h1, h2⟩ := renA hμ hv
          rw [h1]
          exact ⟨_, rfl, rfl, rfl, h2⟩
        · cases h) hx
      rw [h1]
      refine ⟨_, rfl, fun {base w p} hb => ?_, rfl⟩
      obtain ⟨es', h3, h4, h5⟩ := hb
      refine ⟨es', h3, ⟨by rw [← h2.1, h4.1], fun i e hi => ?_⟩, h5⟩
      rcases h2.get i with ⟨_, e⟩ | ⟨a, b, e1, e2, r⟩
      · rw [hi] at e; cases e
      · rw [hi] at e2; simp at e2; subst e2
        obtain ⟨e', h7, h8⟩ := h4.2 i a e1
        exact ⟨e', h7, ⟨by rw [h8.key, r.1], by rw [h8.born, r.2.1], r.2.2 _ h8.val⟩⟩
    · cases h

theorem renBs (hμ : RenOk μ0 μ1 f) {l : List (Option SB)} {fs r : List Filler} {l0 : List (Option Blk)} (h : fillL (blockFill id) l fs = some (l0, r)) : ∃ l1, fillL (blockFill f) l fs = some (l1, r) ∧
    All2 (fun x0 x1 => (x0 = none ∧ x1 = none) ∨ ∃ y0 y1, x0 = some y0 ∧ x1 = some y1 ∧ (∀ {base : Nat} {w : World} {p : Pl}, BR μ0 base w p y0 → BR μ1 base w p y1) ∧ ownB y1 = ownB y0) l0 l1 :=
  renL (F := blockFill id) (G := blockFill f) (R := fun x0 x1 => (x0 = none ∧ x1 = none) ∨ ∃ y0 y1, x0 = some y0 ∧ x1 = some y1 ∧ (∀ {base : Nat} {w : World} {p : Pl}, BR μ0 base w p y0 → BR μ1 base w p y1) ∧ ownB y1 = ownB y0) (fun s fs r v0 h => by
    unfold blockFill at h ⊢
    split at h
    · simp only [Option.some.injEq, Prod.mk.injEq] at h
      obtain ⟨rfl, rfl⟩ := h
      exact ⟨_, rfl, .inl ⟨rfl, rfl⟩⟩
    · split at h
      · rename_i x fs1 hx
        simp only [Option.some.injEq, Prod.mk.injEq] at h
        obtain ⟨rfl, rfl⟩ := h
        obtain ⟨x1, h1, h2, h3⟩ := renB hμ hx
        simp only [h1]
        exact ⟨_, rfl, .inr ⟨_, _, rfl, rfl, h2, h3⟩⟩
      · cases h) h
end

noncomputable section
/-- A function's contract. -/
structure FSpec where
  D : Type
  sh : Shape
  rho : List Value → Hp → Rho
  fills : D → List Filler
  pre : D → Prop
  R : Type
  res : List SA
  oblocks : List (Option SB)
  orho : List Value → Hp → Rho
  ofills : R → List Filler
  post : D → R → Prop

def keptB : Option SB → Bool
  | some (.cells _ ro) => ro
  | some (.row _ ro) => ro
  | _ => false
def newB : Option SB → Bool
  | some (.cells _ ro) => !ro
  | some (.row _ ro) => !ro
  | _ => true
def placeOf (ρ : Rho) (n : Nat) (j : Nat) : Nat := if j < ρ.length then ρ.getD j 0 else n + (j - ρ.length)

def footP (h : Hp) (b : Nat) (kp : Bool) (x : Option Blk) : Hp :=
  match x with
  | some y => h.put b (some y)
  | none => if kp then h else h.put b none
/-- What the function looked at, as it left it; then what it made. -/
def putB : Hp → Rho → List Bool → List (Option Blk) → Hp
  | h, [], _, xs => h.from xs
  | h, b :: ρ, kp :: ks, x :: xs => putB (footP h b kp x) ρ ks xs
  | h, _, _, _ => h

def resV (l : List Value) : Value := match l with | [v] => v | vs => .tuple vs.toArray
def resL (v : Value) : Option (List Value) :=
  match v with
  | .tuple vs => if vs.size = 1 then none else some vs.toList
  | v => some [v]

def FSpec.leave (F : FSpec) (h : Hp) (ρ : Rho) (r : F.R) (K : Value → Hp → Prop) : Prop :=
  match fillL (SA.fill (placeOf ρ h.next)) F.res (F.ofills r) with
  | some (vs, fs) => match fillL (blockFill (placeOf ρ h.next)) F.oblocks fs with
    | some (bs, _) => K (resV vs) (putB h ρ (F.sh.blocks.map keptB) bs)
    | none => False
  | none => False
def FSpec.con (F : FSpec) (args : List Value) (h : Hp) (K : Value → Hp → Prop) : Prop :=
  match F.sh.matD (deepV h (fun _ => false) 6) true (F.rho args h) ⟨args, h⟩ with
  | some fs => if nodupB (F.rho args h) && (F.rho args h).all fun b => decide (b < h.next) then ∃ d, F.fills d = fs ∧ F.pre d ∧ ∀ r, F.post d r → F.leave h (F.rho args h) r K else False
  | none => False
/-- What is asked at the end of the function's text. -/
def FSpec.done (F : FSpec) (d : F.D) (v : Value) (h : Hp) : Prop :=
  match resL v with
  | some vs => match matL (SA.mat (deepV h (okF (F.orho vs h)) 6) (F.orho vs h)) F.res vs, blocksMat (deepV h (okF (F.orho vs h)) 6) false (F.orho vs h) h F.oblocks (F.orho vs h) with
    | some x, some y => if headOk F.sh.blocks.length (F.orho vs h) && nodupB (F.orho vs h) && (F.oblocks.drop F.sh.blocks.length).all newB then ∃ r, F.ofills r = x ++ y ∧ F.post d r else False
    | _, _ => False
  | none => False
end

theorem putB_spec : ∀ {ρ : Rho} {ks : List Bool} {xs : List (Option Blk)} {h : Hp}, ρ.length = ks.length → ρ.length ≤ xs.length → ρ.Nodup → (∀ b ∈ ρ, b < h.next) →
    (putB h ρ ks xs).next = h.next + (xs.length - ρ.length) ∧
    (∀ b, b < h.next → b ∉ ρ → (putB h ρ ks xs).get b = h.get b) ∧
    (∀ (j b : Nat), ρ[j]? = some b → (putB h ρ ks xs).get b = match (xs[j]?).join with | some y => some y | none => if ks[j]? = some true then h.get b else none) ∧
    (∀ i, (putB h ρ ks xs).get (h.next + i) = (xs[ρ.length + i]?).join)
  | [], ks, xs, h, _, _, _, _ => by
    unfold putB
    refine ⟨by rw [Hp.from_next]; simp, fun b hb _ => by rw [Hp.from_get, if_pos hb], fun j b hj => by simp at hj, fun i => ?_⟩
    rw [Hp.from_get, if_neg (by omega)]; simp
  | b :: ρ, [], xs, h, hl, _, _, _ => by simp at hl
  | b :: ρ, kp :: ks, [], h, _, hx, _, _ => by simp at hx
  | b :: ρ, kp :: ks, x :: xs, h, hl, hx, hnd, hlt => by
    rw [List.nodup_cons] at hnd
    have hb := hlt b List.mem_cons_self
    have hn1 : (footP h b kp x).next = h.next := by
      unfold footP
      cases x with
      | some y => rfl
      | none => cases kp <;> rfl
    have hg1 : ∀ c, c ≠ b → (footP h b kp x).get c = h.get c := by
      intro c hc
      unfold footP
      cases x with
      | some y => simp only; rw [Hp.get_put _ _ _ _ hb, if_neg hc]
      | none =>
        cases kp
        · simp only [Bool.false_eq_true, if_false]; rw [Hp.get_put _ _ _ _ hb, if_neg hc]
        · rfl
    have hgb : (footP h b kp x).get b = match x with | some y => some y | none => if kp = true then h.get b else none := by
      unfold footP
      cases x with
      | some y => simp only; rw [Hp.get_put _ _ _ _ hb, if_pos rfl]
      | none =>
        cases kp
        · simp only [Bool.false_eq_true, if_false]; rw [Hp.get_put _ _ _ _ hb, if_pos rfl]
        · rfl
    obtain ⟨i1, i2, i3, i4⟩ := putB_spec (ρ := ρ) (ks := ks) (xs := xs) (h := footP h b kp x) (by simpa using hl) (by simpa using hx) hnd.2 (fun c hc => by rw [hn1]; exact hlt c (List.mem_cons_of_mem _ hc))
    have hput : putB h (b :: ρ) (kp :: ks) (x :: xs) = putB (footP h b kp x) ρ ks xs := rfl
    rw [hput]
    refine ⟨by rw [i1, hn1]; simp, fun c hc hm => ?_, fun j c hj => ?_, fun i => ?_⟩
    · rw [i2 c (by rw [hn1]; exact hc) (fun h => hm (List.mem_cons_of_mem _ h)), hg1 c (fun e => hm (e ▸ List.mem_cons_self))]
    · cases j with
      | zero =>
        simp at hj; subst hj
        rw [i2 b (by rw [hn1]; exact hb) hnd.1, hgb]
        simp only [List.getElem?_cons_zero]
        cases x with
        | some y => rfl
        | none => simp
      | succ j =>
        have hj' : ρ[j]? = some c := by simpa using hj
        have hcb : c ≠ b := fun e => hnd.1 (e ▸ List.mem_of_getElem? hj')
        rw [i3 j c hj', hg1 c hcb]
        simp only [List.getElem?_cons_succ]
    · have := i4 i
      rw [hn1] at this
      rw [this, List.length_cons, show ρ.length + 1 + i = (ρ.length + i) + 1 from by omega, List.getElem?_cons_succ]
end Go.Abs
end
section
namespace Go.Abs
open Go

section
variable {P : Program}

theorem resL_rel {μ : Mu} {v v' : Value} {vs : List Value} (h : resL v = some vs) (r : VR μ v v') :
    (∃ u, vs = [u] ∧ v = u ∧ ∀ ws, v ≠ .tuple ws) ∨ (vs.length ≠ 1 ∧ ∃ ys, v' = .tuple ys ∧ All2 (VRa μ) vs ys.toList) := by
  unfold resL at h
  split at h
  · rename_i ws
    split at h
    · cases h
    · rename_i hs
      simp only [Option.some.injEq] at h; subst h
      refine .inr ⟨by simpa using hs, ?_⟩
      rcases r.inv_tuple with ⟨ys, rfl, hys⟩ | rfl
      · exact ⟨ys, rfl, hys⟩
      · simp at hs
  · rename_i hne
    simp only [Option.some.injEq] at h; subst h
    exact .inl ⟨v, rfl, rfl, fun ws e => hne ws e⟩

theorem VR.toA {μ : Mu} {v v' : Value} (r : VR μ v v') (h : ∀ ws, v ≠ .tuple ws) : VRa μ v v' := by
  cases r with
  | a r => exact r
  | tup _ => exact absurd rfl (h _)
  | dead => exact absurd rfl (h _)

theorem resV_rel {μ : Mu} {vs : List Value} {v' : Value} (h : (∃ u, vs = [u] ∧ VRa μ u v') ∨ (vs.length ≠ 1 ∧ ∃ ys, v' = .tuple ys ∧ All2 (VRa μ) vs ys.toList)) : VR μ (resV vs) v' := by
  rcases h with ⟨u, rfl, r⟩ | ⟨hl, ys, rfl, hys⟩
  · exact .a r
  · unfold resV
    split
    · simp at hl
    · exact .tup (by simpa using hys)

theorem sas_ok {μ : Mu} {ρ : Rho} {dv : DV} {z1 : Nat → Nat → Option Value} (hD : DvOk μ dv z1) {l : List SA} {vs vs' : List Value} {fs : List Filler} (h : matL (SA.mat dv ρ) l vs = some fs) (hr : All2 (VRa μ) vs vs') (rest : List Filler) : ∃ l0, fillL (SA.fill id) l (fs ++ rest) = some (l0, rest) ∧ All2 (VRa (muOf μ z1 ρ)) l0 vs' :=
  matL_ok (m := SA.mat dv ρ) (f := SA.fill id) (R := VRa μ) (R' := VRa (muOf μ z1 ρ)) (fun _ _ _ _ h r rest => sa_ok hD h r rest) h hr rest

theorem blockFill_own {s : Option SB} {fs r : List Filler} {x : Option Blk} (h : blockFill id s fs = some (x, r)) : (s = none ∧ x = none) ∨ ∃ sb y, s = some sb ∧ x = some y ∧ (keptB (some sb) = true → ownB y = false) ∧ (newB (some sb) = true → ownB y = true) := by
  unfold blockFill at h
  split at h
  · simp only [Option.some.injEq, Prod.mk.injEq] at h
    exact .inl ⟨rfl, h.1.symm⟩
  · rename_i sb
    split at h
    · rename_i y fs1 hy
      simp only [Option.some.injEq, Prod.mk.injEq] at h
      obtain ⟨rfl, rfl⟩ := h
      refine .inr ⟨sb, y, rfl, rfl, ?_⟩
      unfold SB.fill at hy
      cases sb with
      | cells l ro =>
        simp only at hy
        split at hy
        · simp only [Option.some.injEq, Prod.mk.injEq] at hy
          obtain ⟨rfl, rfl⟩ := hy
          exact ⟨fun h => by simp only [keptB] at h; subst h; rfl, fun h => h⟩
        · cases hy
      | row like ro =>
        simp only at hy
        split at hy
        · simp only [Option.some.injEq, Prod.mk.injEq] at hy
          obtain ⟨rfl, rfl⟩ := hy
          exact ⟨fun h => by simp only [keptB] at h; subst h; rfl, fun h => h⟩
        · cases hy
      | map l ck =>
        simp only at hy
        split at hy
        · simp only [Option.some.injEq, Prod.mk.injEq] at hy
          obtain ⟨rfl, rfl⟩ := hy
          exact ⟨fun h => by simp [keptB] at h, fun _ => rfl⟩
        · cases hy
      | tok =>
        simp only [Option.some.injEq, Prod.mk.injEq] at hy
        obtain ⟨rfl, rfl⟩ := hy
        exact ⟨fun h => by simp [keptB] at h, fun _ => rfl⟩
      | smap kz vz =>
        simp only at hy
        split at hy
        · simp only [Option.some.injEq, Prod.mk.injEq] at hy
          obtain ⟨rfl, rfl⟩ := hy
          exact ⟨fun h => by simp [keptB] at h, fun _ => rfl⟩
        · cases hy
    · cases h
theorem fill_both : ∀ {l : List (Option SB)} {fs r : List Filler} {l0 : List (Option Blk)}, fillL (blockFill id) l fs = some (l0, r) → l0.length = l.length ∧ ∀ (j : Nat) (s : Option SB), l[j]? = some s → ∃ x, l0[j]? = some x ∧
    ((s = none ∧ x = none) ∨ ∃ sb y, s = some sb ∧ x = some y ∧ (keptB (some sb) = true → ownB y = false) ∧ (newB (some sb) = true → ownB y = true))
  | [], fs, r, l0, h => by
    simp only [fillL, Option.some.injEq, Prod.mk.injEq] at h
    obtain ⟨rfl, rfl⟩ := h
    exact ⟨rfl, fun j s h => by simp at h⟩
  | a :: l, fs, r, l0, h => by
    unfold fillL at h
    split at h
    · rename_i b fs1 hb
      split at h
      · rename_i bs fs2 hbs
        simp only [Option.some.injEq, Prod.mk.injEq] at h
        obtain ⟨rfl, rfl⟩ := h
        obtain ⟨h1, h2⟩ := fill_both hbs
        refine ⟨by simp [h1], fun j s hj => ?_⟩
        cases j with
        | zero => simp at hj; subst hj; exact ⟨b, rfl, blockFill_own hb⟩
        | succ j => exact h2 j s (by simpa using hj)
      · cases h
    · cases h
theorem fill_len {l : List (Option SB)} {fs r : List Filler} {l0 : List (Option Blk)} (h : fillL (blockFill id) l fs = some (l0, r)) : l0.length = l.length := (fill_both h).1
theorem fill_own {l : List (Option SB)} {fs r : List Filler} {l0 : List (Option Blk)} (h : fillL (blockFill id) l fs = some (l0, r)) (j : Nat) (x0 : Blk) (hj : l0[j]? = some (some x0)) :
    ∃ sb, l[j]? = some (some sb) ∧ (keptB (some sb) = true → ownB x0 = false) ∧ (newB (some sb) = true → ownB x0 = true) := by
  obtain ⟨h1, h2⟩ := fill_both h
  have hl := (List.getElem?_eq_some_iff.1 hj).1
  obtain ⟨x, h3, h4⟩ := h2 j _ (List.getElem?_eq_getElem (by omega))
  rw [hj] at h3
  simp at h3; subst h3
  rcases h4 with ⟨_, h5⟩ | ⟨sb, y, h5, h6, h7⟩
  · cases h5
  · simp at h6; subst h6
    exact ⟨sb, by rw [List.getElem?_eq_getElem (by omega), h5], h7⟩
theorem fill_some {l : List (Option SB)} {fs r : List Filler} {l0 : List (Option Blk)} (h : fillL (blockFill id) l fs = some (l0, r)) (j : Nat) (sb : SB) (hj : l[j]? = some (some sb)) : ∃ x0, l0[j]? = some (some x0) := by
  obtain ⟨x, h3, h4⟩ := (fill_both h).2 j _ hj
  rcases h4 with ⟨h5, _⟩ | ⟨sb, y, _, h6, _⟩
  · cases h5
  · exact ⟨y, by rw [h3, h6]⟩

/-- The numbers of the caller, behind the call. -/
def muBig (μ : Mu) (n k m : Nat) (ν : Mu) : Mu := ⟨fun b => if b < n then μ b else if b - n + k < m then ν (b - n + k) else none, ν.z⟩

theorem FSpec.ok (hP : ProgOk P) {C : Con} (hC : ConOk P C) {call : Caller} (hcall : CallOk P call) (F : FSpec) {fi : FuncId} {fn : Func} {c : Code} (hf : P.funcs[fi]? = some fn) (hb : fn.body = some c) {n : Nat} {LS : F.D → Loops}
    (_hlen : F.sh.blocks.length ≤ F.oblocks.length) (hall : F.sh.blocks.all Option.isSome = true)
    (hbody : ∀ d, F.pre d → ∀ s0, F.sh.fill (F.fills d) = some s0 → runV std P C call n (LS d) F.sh.blocks.length c ⟨s0.tmps ++ List.replicate (fn.ntmps - s0.tmps.length) undef, s0.h⟩ (resK P fn (F.done d))) :
    ∀ args h K, F.con args h K → CallSem P fi args h K := by
  intro args h K e μ base w args' hl hrel hfree
  unfold FSpec.con at e
  split at e
  case h_2 => exact e.elim
  rename_i fs hm
  split at e
  case isFalse => exact e.elim
  rename_i hc
  simp only [Bool.and_eq_true, List.all_eq_true, decide_eq_true_eq] at hc
  obtain ⟨hnd, hlt⟩ := hc
  have hnd := nodupB_spec hnd
  obtain ⟨d, rfl, hpre, hK⟩ := e
  generalize hρ : F.rho args h = ρ at *
  -- the small state
  have hρl : ρ.length = F.sh.blocks.length := by
    unfold Shape.matD at hm
    split at hm
    · rename_i x y hx hy
      have : ∀ {l : List (Option SB)} {bs : List Nat} {fs : List Filler}, blocksMat (deepV h (fun _ => false) 6) true ρ h l bs = some fs → bs.length = l.length := by
        intro l
        induction l with
        | nil => intro bs fs h; cases bs with
          | nil => rfl
          | cons _ _ => simp [blocksMat] at h
        | cons a l ih => intro bs fs h; cases bs with
          | nil => simp [blocksMat] at h
          | cons b bs =>
            unfold blocksMat at h
            split at h
            · rename_i h2; simp [ih h2]
            · cases h
      exact this hy
    · cases hm
  have hfill : ∃ s0, F.sh.fill (F.fills d) = some s0 := by
    unfold Shape.matD at hm
    split at hm
    · rename_i x y hx hy
      simp only [Option.some.injEq] at hm
      obtain ⟨l0, h1, _⟩ := slots_ok (dvOk_none hrel) hx hl y
      obtain ⟨bs, h3, _, _⟩ := blocks_ok (dvOk_none hrel) hrel hfree hy []
      rw [List.append_nil] at h3
      unfold Shape.fill
      rw [← hm, h1]
      simp only [h3]
      exact ⟨_, rfl⟩
    · cases hm
  obtain ⟨s0, hs0⟩ := hfill
  have hTR : TR μ (⟨args, h⟩ : St).tmps args' := hl
  obtain ⟨hn0, ht0, hr0, hback⟩ := shape0_ok hm hs0 hnd hTR hrel hfree
  have hfree0 : ∀ b, s0.h.next ≤ b → muOf μ μ.z ρ b = none := fun b hb => by show (ρ[b]?).bind μ.f = none; rw [List.getElem?_eq_none (by omega)]; rfl
  have htr : TR (muOf μ μ.z ρ) (s0.tmps ++ List.replicate (fn.ntmps - s0.tmps.length) undef) (args' ++ Array.replicate (fn.ntmps - args'.size) undef) := by
    unfold TR
    rw [Array.toList_append, Array.toList_replicate]
    have : s0.tmps.length = args'.size := by rw [ht0.1, Array.length_toList]
    rw [this]
    exact ht0.append (All2.replicate _ (.undef _))
  have hn := hP.name hf
  refine .inr ⟨by simp [callFunc, hf, hn, hb], ?_⟩
  refine calls_of_wp hf hb ?_
  refine (runV_ok hP hC hcall n).1 (LS d) F.sh.blocks.length c _ _ (hP.code hf hb) (hbody d hpre s0 hs0) F.sh.blocks.length (Nat.le_refl _) (by show _ ≤ s0.h.next; omega) ⟨htr, rfl, hr0, hfree0⟩ fun ex s' a' w' μ' hdone hk hp => ?_
  -- behind the text
  have key : ∀ {v : Value}, resultsA P fn s' = some v → F.done d v s'.h → ∃ v', (results fn a'.tmps).run P w' = .ok v' w' ∧ ∃ v h' μ', K v h' ∧ COut μ base h w v h' v' w' μ' := by
    intro v hres hd
    obtain ⟨v', h2, h3⟩ := resultsA_run hres hp.cfg.tmps hp.cfg.rel
    refine ⟨v', h2, ?_⟩
    unfold FSpec.done at hd
    split at hd
    case h_2 => exact hd.elim
    rename_i vs hvs
    split at hd
    case h_2 => exact hd.elim
    rename_i x y hx hy
    split at hd
    case isFalse => exact hd.elim
    rename_i hcheck
    simp only [Bool.and_eq_true, List.all_eq_true] at hcheck
    obtain ⟨⟨hhead, hnd'⟩, hnew⟩ := hcheck
    obtain ⟨r, hof, hpost⟩ := hd
    generalize hσ : F.orho vs s'.h = σ at *
    have hD := dvOk_of hp.cfg.rel σ
    obtain ⟨hkσ, hσi⟩ := headOk_spec hhead
    have hndσ := nodupB_spec hnd'
    -- the shape of what is left, filled with its own numbers
    have hvr : ∃ l0, fillL (SA.fill id) F.res (x ++ y) = some (l0, y) ∧ ((∃ u, l0 = [u] ∧ VRa (muOf μ' (zS μ' s'.h w' σ) σ) u v') ∨ (l0.length ≠ 1 ∧ ∃ ys, v' = .tuple ys ∧ All2 (VRa (muOf μ' (zS μ' s'.h w' σ) σ)) l0 ys.toList)) := by
      rcases resL_rel hvs h3 with ⟨u, rfl, rfl, hnt⟩ | ⟨hl1, ys, rfl, hys⟩
      · obtain ⟨l0, h4, h5⟩ := sas_ok hD hx (All2.cons (h3.toA hnt) All2.nil) y
        refine ⟨l0, h4, .inl ?_⟩
        have hl0 : l0.length = 1 := by rw [h5.1]; rfl
        obtain ⟨u0, rfl⟩ := List.length_eq_one_iff.1 hl0
        obtain ⟨b, m', e1, e2, _⟩ := h5.inv_cons
        simp at e1
        exact ⟨u0, rfl, by rw [e1.1]; exact e2⟩
      · obtain ⟨l0, h4, h5⟩ := sas_ok hD hx hys y
        exact ⟨l0, h4, .inr ⟨by rw [h5.1, ← hys.1]; exact hl1, ys, rfl, h5⟩⟩
    obtain ⟨l0, hfr, hrel0⟩ := hvr
    obtain ⟨bs0, hbs0, hbl, hbs⟩ := blocks_ok hD hp.cfg.rel hp.cfg.free hy []
    rw [List.append_nil] at hbs0
    have hσl : σ.length = F.oblocks.length := by
      have : ∀ {l : List (Option SB)} {bs : List Nat} {fs : List Filler}, blocksMat (deepV s'.h (okF σ) 6) false σ s'.h l bs = some fs → bs.length = l.length := by
        intro l
        induction l with
        | nil => intro bs fs h; cases bs with
          | nil => rfl
          | cons _ _ => simp [blocksMat] at h
        | cons a l ih => intro bs fs h; cases bs with
          | nil => simp [blocksMat] at h
          | cons b bs =>
            unfold blocksMat at h
            split at h
            · rename_i h2; simp [ih h2]
            · cases h
      exact this hy
    -- the caller's numbers
    have hμf : ∀ j p, muOf μ' (zS μ' s'.h w' σ) σ j = some p → muBig μ h.next ρ.length σ.length (muOf μ' (zS μ' s'.h w' σ) σ) (placeOf ρ h.next j) = some p := by
      intro j p hj
      unfold placeOf muBig
      have hj : (σ[j]?).bind μ'.f = some p := hj
      have hjl : j < σ.length := by
        rcases Nat.lt_or_ge j σ.length with h1 | h1
        · exact h1
        · rw [List.getElem?_eq_none h1] at hj; cases hj
      simp only
      split
      · rename_i hjk
        have hmem : ρ.getD j 0 ∈ ρ := by
          rw [List.getD_eq_getElem?_getD, List.getElem?_eq_getElem hjk]; exact List.getElem_mem hjk
        rw [if_pos (hlt _ hmem)]
        have h1 : σ[j]? = some j := hσi j (by omega)
        rw [h1] at hj
        have h2 : μ' j = some p := hj
        rw [hp.prot j (by omega)] at h2
        have h2 : (ρ[j]?).bind μ.f = some p := h2
        rw [List.getElem?_eq_getElem hjk] at h2
        rw [List.getD_eq_getElem?_getD, List.getElem?_eq_getElem hjk]
        exact h2
      · rename_i hjk
        rw [if_neg (by omega), show h.next + (j - ρ.length) - h.next + ρ.length = j from by omega, if_pos hjl]
        exact hj
    obtain ⟨l1, hl1, hr1⟩ := renL (F := SA.fill id) (G := SA.fill (placeOf ρ h.next)) (R := fun v0 v1 => ∀ v', VRa (muOf μ' (zS μ' s'.h w' σ) σ) v0 v' → VRa (muBig μ h.next ρ.length σ.length (muOf μ' (zS μ' s'.h w' σ) σ)) v1 v') (fun s fs r v0 h => renA ⟨hμf, fun _ _ _ h => h⟩ h) hfr
    obtain ⟨bs1, hbs1, hrb⟩ := renBs ⟨hμf, fun _ _ _ h => h⟩ hbs0
    have hleave := hK r hpost
    unfold FSpec.leave at hleave
    rw [hof, hl1] at hleave
    simp only [hbs1] at hleave
    refine ⟨_, _, muBig μ h.next ρ.length σ.length (muOf μ' (zS μ' s'.h w' σ) σ), hleave, ?_⟩
    have hbl1 : bs1.length = σ.length := by rw [← hrb.1, hbl]
    obtain ⟨i1, i2, i3, i4⟩ := putB_spec (ρ := ρ) (ks := F.sh.blocks.map keptB) (xs := bs1) (h := h) (by rw [List.length_map, hρl]) (by rw [hbl1]; omega) hnd hlt
    generalize hh1 : putB h ρ (F.sh.blocks.map keptB) bs1 = h1 at *
    -- blocks of the caller that the function saw as its own are the caller's own
    have hown : ∀ b p x, μ b = some p → h.get b = some x → (∀ b0 p0 x0, muOf μ μ.z ρ b0 = some p0 → s0.h.get b0 = some x0 → ownB x0 = true → p0.c ≠ p.c) → w'.heap[p.c]? = w.heap[p.c]? := by
      intro b p x hb hx hno
      exact hp.fr.block p.c (hrel.blk b p x hb hx).lt hno
    have hsees : ∀ j p0 x0, muOf μ μ.z ρ j = some p0 → s0.h.get j = some x0 → ∃ b x, ρ[j]? = some b ∧ μ b = some p0 ∧ h.get b = some x ∧ (ownB x0 = true → ownB x = true) := by
      intro j p0 x0 hj hx0
      obtain ⟨b, x, h4, h5, h6⟩ := hback j x0 p0 hx0 hj
      have hj : (ρ[j]?).bind μ.f = some p0 := hj
      rw [h4] at hj
      exact ⟨b, x, h4, hj, h5, h6.1⟩
    -- a block of the new heap: a block that stayed, or one that the function left or made
    have cases1 : ∀ b x, h1.get b = some x → (b < h.next ∧ h.get b = some x ∧ (b ∉ ρ ∨ ∃ j : Nat, ρ[j]? = some b ∧ (F.sh.blocks.map keptB)[j]? = some true)) ∨ (∃ (j : Nat) (y : Blk), bs1[j]? = some (some x) ∧ bs0[j]? = some (some y) ∧ placeOf ρ h.next j = b ∧ ownB x = ownB y ∧
        (∀ p, BR (muOf μ' (zS μ' s'.h w' σ) σ) base w' p y → BR (muBig μ h.next ρ.length σ.length (muOf μ' (zS μ' s'.h w' σ) σ)) base w' p x)) := by
      intro b x hx
      have left : ∀ (j : Nat), bs1[j]? = some (some x) → ∃ y, bs0[j]? = some (some y) ∧ ownB x = ownB y ∧ ∀ p, BR (muOf μ' (zS μ' s'.h w' σ) σ) base w' p y → BR (muBig μ h.next ρ.length σ.length (muOf μ' (zS μ' s'.h w' σ) σ)) base w' p x := by
        intro j hj
        rcases hrb.get j with ⟨_, e⟩ | ⟨x0, x1, e1, e2, r⟩
        · rw [hj] at e; cases e
        · rw [hj] at e2; simp at e2; subst e2
          rcases r with ⟨_, h4⟩ | ⟨y0, y1, rfl, h5, h6, h7⟩
          · cases h4
          · simp at h5; subst h5
            exact ⟨y0, e1, h7, fun p hb => h6 hb⟩
      by_cases hbl : b < h.next
      · by_cases hm : b ∈ ρ
        · obtain ⟨j, hj⟩ := List.mem_iff_getElem?.1 hm
          rw [i3 j b hj] at hx
          have hjl := (List.getElem?_eq_some_iff.1 hj).1
          split at hx
          · rename_i y hy
            simp only [Option.some.injEq] at hx; subst hx
            have hj1 : bs1[j]? = some (some y) := by
              cases e : bs1[j]? with
              | none => rw [e] at hy; cases hy
              | some o => rw [e] at hy; simp at hy; rw [hy]
            obtain ⟨y0, h4, h5, h6⟩ := left j hj1
            refine .inr ⟨j, y0, hj1, h4, ?_, h5, h6⟩
            unfold placeOf; rw [if_pos hjl, List.getD_eq_getElem?_getD, hj]; rfl
          · split at hx
            · rename_i hk
              exact .inl ⟨hbl, hx, .inr ⟨j, hj, hk⟩⟩
            · cases hx
        · rw [i2 b hbl hm] at hx
          exact .inl ⟨hbl, hx, .inl hm⟩
      · have h4 := i4 (b - h.next)
        rw [show h.next + (b - h.next) = b from by omega, hx] at h4
        have hj1 : bs1[ρ.length + (b - h.next)]? = some (some x) := by
          cases e : bs1[ρ.length + (b - h.next)]? with
          | none => rw [e] at h4; cases h4
          | some o => rw [e] at h4; simp at h4; rw [← h4]
        obtain ⟨y0, h5, h6, h7⟩ := left _ hj1
        refine .inr ⟨_, y0, hj1, h5, ?_, h6, h7⟩
        unfold placeOf; rw [if_neg (by omega)]; omega
    -- what stands for a place
    have muOld : ∀ b, b < h.next → muBig μ h.next ρ.length σ.length (muOf μ' (zS μ' s'.h w' σ) σ) b = μ b := fun b hb => by show (if b < h.next then μ.f b else _) = _; rw [if_pos hb]
    have muAt : ∀ j, j < σ.length → muBig μ h.next ρ.length σ.length (muOf μ' (zS μ' s'.h w' σ) σ) (placeOf ρ h.next j) = muOf μ' (zS μ' s'.h w' σ) σ j := by
      intro j hj
      cases e : muOf μ' (zS μ' s'.h w' σ) σ j with
      | some p => exact hμf j p e
      | none =>
        unfold placeOf muBig
        have e : (σ[j]?).bind μ'.f = none := e
        simp only
        split
        · rename_i hjk
          have hmem : ρ.getD j 0 ∈ ρ := by
            rw [List.getD_eq_getElem?_getD, List.getElem?_eq_getElem hjk]; exact List.getElem_mem hjk
          rw [if_pos (hlt _ hmem)]
          have h1 : σ[j]? = some j := hσi j (by omega)
          rw [h1] at e
          have h2 : μ' j = none := e
          rw [hp.prot j (by omega)] at h2
          have h2 : (ρ[j]?).bind μ.f = none := h2
          rw [List.getElem?_eq_getElem hjk] at h2
          rw [List.getD_eq_getElem?_getD, List.getElem?_eq_getElem hjk]
          exact h2
        · rw [if_neg (by omega), show h.next + (j - ρ.length) - h.next + ρ.length = j from by omega, if_pos hj]
          exact e
    -- a kept block was seen as one that is only read
    have hf0 := hs0
    unfold Shape.fill at hf0
    split at hf0
    case h_2 => cases hf0
    rename_i tm0 fs1 htm
    split at hf0
    case h_2 => cases hf0
    rename_i bl0 fs2 hbl0
    simp only [Option.some.injEq] at hf0
    have s0get : ∀ j : Nat, s0.h.get j = (bl0[j]?).join := by intro j; rw [← hf0]; exact hpOf_get bl0 j
    have keptRo : ∀ (j : Nat) (x0 : Blk), (F.sh.blocks.map keptB)[j]? = some true → s0.h.get j = some x0 → ownB x0 = false := by
      intro j x0 hk hx0
      rw [s0get] at hx0
      have hj : bl0[j]? = some (some x0) := by
        cases e : bl0[j]? with
        | none => rw [e] at hx0; cases hx0
        | some o => rw [e] at hx0; simp at hx0; rw [hx0]
      obtain ⟨sb, h4, h5, _⟩ := fill_own hbl0 j x0 hj
      rw [List.getElem?_map, h4] at hk
      exact h5 (by simpa using hk)
    have there : ∀ j : Nat, j < ρ.length → ∃ x0, s0.h.get j = some x0 := by
      intro j hj
      rw [s0get]
      have hlen0 := fill_len hbl0
      have hj2 : j < F.sh.blocks.length := by omega
      have h4 := List.all_eq_true.1 hall _ (List.getElem_mem hj2)
      obtain ⟨sb, h5⟩ := Option.isSome_iff_exists.1 h4
      obtain ⟨x0, h6⟩ := fill_some hbl0 j sb (by rw [List.getElem?_eq_getElem hj2, h5])
      exact ⟨x0, by rw [h6]; rfl⟩
    have leftAt : ∀ (j : Nat) (y : Blk) (p : Pl), bs0[j]? = some (some y) → muOf μ' (zS μ' s'.h w' σ) σ j = some p → ∃ b2 x2, σ[j]? = some b2 ∧ μ' b2 = some p ∧ s'.h.get b2 = some x2 ∧ ownB y = ownB x2 ∧ BR (muOf μ' (zS μ' s'.h w' σ) σ) base w' p y := by
      intro j y p hj hp1
      obtain ⟨b2, h4, h5⟩ := hbs j y hj
      have hp1 : (σ[j]?).bind μ'.f = some p := hp1
      rw [h4] at hp1
      obtain ⟨x2, h6, h7, h8⟩ := h5 p hp1
      exact ⟨b2, x2, h4, hp1, h6, h7.2 rfl, h8⟩
    have jlt : ∀ (j : Nat) (x : Blk), bs1[j]? = some (some x) → j < σ.length := fun j x hj => by rw [← hbl1]; exact (List.getElem?_eq_some_iff.1 hj).1
    -- blocks that stayed are as they were
    have stays : ∀ b p x, b < h.next → μ b = some p → h.get b = some x → (b ∉ ρ ∨ ∃ j : Nat, ρ[j]? = some b ∧ (F.sh.blocks.map keptB)[j]? = some true) →
        ∀ (b0 : Nat) (p0 : Pl) (x0 : Blk), muOf μ μ.z ρ b0 = some p0 → s0.h.get b0 = some x0 → ownB x0 = true → p0.c ≠ p.c := by
      intro b p x hb hμ hx hst b0 p0 x0 h4 h5 h6
      obtain ⟨b'', x'', h7, h8, h9, h10⟩ := hsees b0 p0 x0 h4 h5
      refine hrel.inj b'' b p0 p x'' x h8 hμ h9 hx (fun e => ?_) (h10 h6)
      subst e
      rcases hst with hst | ⟨j, hj, hk⟩
      · exact hst (List.mem_of_getElem? h7)
      · have := nodup_inj hnd hj h7
        subst this
        have := keptRo j x0 hk h5
        rw [h6] at this; cases this
    have hle : Mu.le μ (muBig μ h.next ρ.length σ.length (muOf μ' (zS μ' s'.h w' σ) σ)) := by
      refine ⟨fun b p hb => ?_, fun c i a hc => hD.le c i a (hp.zle c i a hc)⟩
      have hbl : b < h.next := by
        rcases Nat.lt_or_ge b h.next with h4 | h4
        · exact h4
        · rw [hfree b h4] at hb; cases hb
      rw [muOld b hbl]; exact hb
    refine ⟨resV_rel ?_, ⟨hp.cfg.rel.size, fun b p x hb hx => ?_, fun b b' p p' x x' hb hb' hx hx' hne ho => ?_, fun c i a hc => ⟨((freeze_rel hp.cfg.rel fun b => okF σ b = true).frz c i a hc).1, fun b p x hb hx ho hcc => ?_⟩⟩, fun b hb => ?_, ⟨hp.fr.os, hp.fr.tape, hp.fr.output, hp.fr.size, fun c hc hno => ?_⟩, fun b p x hb hx => ?_, fun i hi => muOld i hi, by rw [i1]; omega, hle.z, fun c i a hc => ?_⟩
    · rcases hrel0 with ⟨u, rfl, hu⟩ | ⟨hl2, ys, rfl, hys⟩
      · obtain ⟨u1, m', rfl, hu1, hm'⟩ := hr1.inv_cons
        have := hm'.inv_nil; subst this
        exact .inl ⟨u1, rfl, hu1 _ hu⟩
      · exact .inr ⟨by rw [← hr1.1]; exact hl2, ys, rfl, all2_ren hr1 hys⟩
    · rcases cases1 b x hx with ⟨h4, h5, h6⟩ | ⟨j, y, h4, h5, h6, h7, h8⟩
      · rw [muOld b h4] at hb
        exact (hrel.blk b p x hb h5).keep hle (hown b p x hb h5 (stays b p x h4 hb h5 h6))
      · have hj := jlt j x h4
        rw [← h6, muAt j hj] at hb
        obtain ⟨b2, x2, _, _, _, _, h9⟩ := leftAt j y p h5 hb
        exact h8 p h9
    · rcases cases1 b x hx with ⟨h4, h5, h6⟩ | ⟨j, y, h4, h5, h6, h7, h8⟩
      · rw [muOld b h4] at hb
        rcases cases1 b' x' hx' with ⟨k4, k5, k6⟩ | ⟨j', y', k4, k5, k6, k7, k8⟩
        · rw [muOld b' k4] at hb'
          exact hrel.inj b b' p p' x x' hb hb' h5 k5 hne ho
        · have hj' := jlt j' x' k4
          rw [← k6, muAt j' hj'] at hb'
          obtain ⟨b2, x2, m1, m2, m3, m4, _⟩ := leftAt j' y' p' k5 hb'
          intro e
          rcases hp.own b2 p' x2 m2 m3 with m5 | ⟨b0, p0, x0, m5, m6, m7, m8⟩
          · have := (hrel.blk b p x hb h5).lt; omega
          · obtain ⟨b'', x'', m9, m10, m11, m12⟩ := hsees b0 p0 x0 m5 m6
            by_cases hbb : b = b''
            · subst hbb
              rcases h6 with h6 | ⟨j, hj, hk⟩
              · exact h6 (List.mem_of_getElem? m9)
              · have := nodup_inj hnd hj m9
                subst this
                have hro := keptRo j x0 hk m6
                by_cases hjk : j' < ρ.length
                · -- a block that the function looked at
                  obtain ⟨z0, hz0⟩ := there j' hjk
                  have hσj := hσi j' (by omega)
                  rw [hσj] at m1
                  simp at m1; subst m1
                  rw [hp.prot j' (by omega)] at m2
                  obtain ⟨c, z, n1, n2, n3⟩ := hback j' z0 _ hz0 m2
                  have m2 : (ρ[j']?).bind μ.f = some p' := m2
                  rw [n1] at m2
                  have hcb : c = b' := by
                    rw [← k6]; unfold placeOf; rw [if_pos hjk, List.getD_eq_getElem?_getD, n1]; rfl
                  subst hcb
                  exact hrel.inj b c p p' x z hb m2 h5 n2 hne ho e
                · have hnb : newB (F.oblocks[j']'(by omega)) = true := hnew _ (by
                    rw [List.mem_iff_getElem?]
                    exact ⟨j' - F.sh.blocks.length, by rw [List.getElem?_drop, show F.sh.blocks.length + (j' - F.sh.blocks.length) = j' from by omega, List.getElem?_eq_getElem]⟩)
                  obtain ⟨sb, q1, _, q2⟩ := fill_own hbs0 j' y' k5
                  have q3 : ownB y' = true := q2 (by
                    rw [List.getElem?_eq_getElem (by omega)] at q1
                    simp at q1; rw [← q1]; exact hnb)
                  have := m7 (by rw [← m4]; exact q3)
                  rw [hro] at this; cases this
            · exact hrel.inj b b'' p p0 x x'' hb m10 h5 m11 hbb ho (by rw [e, m8])
      · have hj := jlt j x h4
        rw [← h6, muAt j hj] at hb
        obtain ⟨b2, x2, m1, m2, m3, m4, _⟩ := leftAt j y p h5 hb
        have ho2 : ownB x2 = true := by rw [← m4, ← h7]; exact ho
        rcases cases1 b' x' hx' with ⟨k4, k5, k6⟩ | ⟨j', y', k4, k5, k6, k7, k8⟩
        · rw [muOld b' k4] at hb'
          rcases hp.own b2 p x2 m2 m3 with m5 | ⟨b0, p0, x0, m5, m6, m7, m8⟩
          · have := (hrel.blk b' p' x' hb' k5).lt; omega
          · rw [← m8]
            exact stays b' p' x' k4 hb' k5 k6 b0 p0 x0 m5 m6 (m7 ho2)
        · have hj' := jlt j' x' k4
          rw [← k6, muAt j' hj'] at hb'
          obtain ⟨b2', x2', q1, q2, q3, q4, _⟩ := leftAt j' y' p' k5 hb'
          refine hp.cfg.rel.inj b2 b2' p p' x2 x2' m2 q2 m3 q3 (fun e => ?_) ho2
          subst e
          have := nodup_inj hndσ m1 q1
          subst this
          exact hne (h6.symm.trans k6)
    · -- what is frozen
      have hfz := (freeze_rel hp.cfg.rel fun b => okF σ b = true).frz c i a hc
      rcases cases1 b x hx with ⟨h4, h5, h6⟩ | ⟨j, y, h4, h5, h6, h7, h8⟩
      · rw [muOld b h4] at hb
        -- a block that stayed
        have old : ∀ {b0 : Nat} {p0 : Pl} {x0 : Blk}, muOf μ μ.z ρ b0 = some p0 → s0.h.get b0 = some x0 → ownB x0 = true → p0.c = c → False := fun k1 k2 k3 k4 =>
          stays b p x h4 hb h5 h6 _ _ _ k1 k2 k3 (k4.trans hcc.symm)
        rcases freeze_sim _ c i a hc with k1 | k1 | ⟨b0, p0, x0, k1, k2, k3, k4⟩
        · rcases hp.fz c i a k1 with k1 | k1 | ⟨b0, p0, x0, k1, k2, k3, k4⟩
          · exact (hrel.frz c i a k1).2 b p x hb h5 ho hcc
          · have := (hrel.blk b p x hb h5).lt; omega
          · exact (old k1 k2 k3 k4).elim
        · have := (hrel.blk b p x hb h5).lt; have := hp.fr.size; omega
        · rcases hp.own b0 p0 x0 k1 k2 with m5 | ⟨b1, p1, x1, m5, m6, m7, m8⟩
          · have := (hrel.blk b p x hb h5).lt; omega
          · exact (old m5 m6 (m7 k3) (m8.trans k4)).elim
      · have hj := jlt j x h4
        rw [← h6, muAt j hj] at hb
        obtain ⟨b2, x2, m1, m2, m3, m4, _⟩ := leftAt j y p h5 hb
        refine hfz.2 b2 p x2 m2 ?_ (by rw [← m4, ← h7]; exact ho) hcc
        unfold gF
        rw [if_neg (fun hs => okF_own (List.mem_of_getElem? m1) hs)]
        exact m3
    · show (if b < h.next then μ.f b else if b - h.next + ρ.length < σ.length then _ else none) = none
      rw [i1] at hb
      rw [if_neg (by omega), if_neg (by omega)]
    · refine hp.fr.block c hc fun b0 p0 x0 h4 h5 h6 => ?_
      obtain ⟨b'', x'', _, h8, h9, h10⟩ := hsees b0 p0 x0 h4 h5
      exact hno b'' p0 x'' h8 h9 (h10 h6)
    · rcases cases1 b x hx with ⟨h4, h5, h6⟩ | ⟨j, y, h4, h5, h6, h7, h8⟩
      · rw [muOld b h4] at hb
        exact .inr ⟨b, p, x, hb, h5, id, rfl⟩
      · have hj := jlt j x h4
        rw [← h6, muAt j hj] at hb
        obtain ⟨b2, x2, m1, m2, m3, m4, _⟩ := leftAt j y p h5 hb
        rcases hp.own b2 p x2 m2 m3 with m5 | ⟨b0, p0, x0, m5, m6, m7, m8⟩
        · exact .inl m5
        · obtain ⟨b'', x'', _, h9, h10, h11⟩ := hsees b0 p0 x0 m5 m6
          exact .inr ⟨b'', p0, x'', h9, h10, fun h => h11 (m7 (by rw [← m4, ← h7]; exact h)), m8⟩
    · -- what is frozen comes of a block of the caller's, or is new
      have one : ∀ {b0 : Nat} {p0 : Pl} {x0 : Blk}, muOf μ μ.z ρ b0 = some p0 → s0.h.get b0 = some x0 → ownB x0 = true → p0.c = c → ∃ b0 p0 x0, μ b0 = some p0 ∧ h.get b0 = some x0 ∧ ownB x0 = true ∧ p0.c = c := fun k1 k2 k3 k4 => by
        obtain ⟨b'', x'', _, h9, h10, h11⟩ := hsees _ _ _ k1 k2
        exact ⟨b'', _, x'', h9, h10, h11 k3, k4⟩
      rcases freeze_sim _ c i a hc with k1 | k1 | ⟨b0, p0, x0, k1, k2, k3, k4⟩
      · rcases hp.fz c i a k1 with k1 | k1 | ⟨b0, p0, x0, k1, k2, k3, k4⟩
        · exact .inl k1
        · exact .inr (.inl k1)
        · exact .inr (.inr (one k1 k2 k3 k4))
      · exact .inr (.inl (Nat.le_trans hp.fr.size k1))
      · rcases hp.own b0 p0 x0 k1 k2 with m5 | ⟨b1, p1, x1, m5, m6, m7, m8⟩
        · exact .inr (.inl (by omega))
        · exact .inr (.inr (one m5 m6 (m7 k3) (m8.trans k4)))
  unfold resK at hdone
  split at hdone
  · split at hdone
    · rename_i v hres
      obtain ⟨v', h2, h3⟩ := key hres hdone
      exact ⟨hp.cfg.defers, v', h2, v', rfl, h3⟩
    · exact hdone.elim
  · split at hdone
    · rename_i v hres
      obtain ⟨v', h2, h3⟩ := key hres hdone
      exact ⟨hp.cfg.defers, v', h2, v', rfl, h3⟩
    · exact hdone.elim
  · exact hdone.elim
end
end Go.Abs
end
section
namespace Go.Proofs.Ytddejgkfgnokgaa
open Go.ChangeShapes Go.WideShapes Go.ChangeAt Go.RowKit Go.Abs

theorem Try.own : ownKnob Try.prog.godebug = none := by kernel_rfl
theorem Try.laidOut : laidOutB Try.prog = true := by kernel_rfl
theorem Try.mixed : Try.prog.follows .mixedOrders = true := by kernel_rfl
theorem Try.names : (Try.prog.funcs.all fun f => f.name != "runtime.NumGoroutine") = true := by kernel_rfl
theorem Try.progOk : ProgOk Try.prog := progOk_of Try.codeOk Try.mixed Try.names
theorem knownOk_none (P : Program) : KnownOk P X0 := fun f g h => by cases h

section
variable {H : Type} {enc : TypeId × Value → H} {P : Program}
/-- A row's last step, where of the new world is known that all that was there is as it was. -/
theorem post_below {f : Func} {s : ChangeSpec} {apart fresh handsOn again : Bool} {W W' : World} {args : Array Value} {v : Value} {ds gs : List (DataW H)} {before pa pv : List MemPlace}
    (hW : DataW.Whole enc P f.params.toList s.vars apart W args.toList ds gs before)
    (hres : ∀ (b : Nat) (sp : Nat → Bool) (hd : Bool), DataW.TrodAll enc P W' b sp hd f.resultTypes.toList (v.resultList f.resultTypes.size) (s.fn H (ds ++ gs)).results [])
    (hargs : ∀ sp : Nat → Bool, (∀ p ∈ before, sp p.block = true) → DataW.TrodAll enc P W' 0 sp true f.params.toList args.toList (s.fn H (ds ++ gs)).args pa)
    (hvars : ∀ sp : Nat → Bool, (∀ p ∈ before, sp p.block = true) → DataW.TrodVars enc P W' sp s.vars (s.fn H (ds ++ gs)).vars pv)
    (hps : before = pa ++ pv) (hb : Below W.heap.size W W')
    (hok : ∀ (j : Nat) (t : TypeId) (r : Value), f.resultTypes[j]? = some t → (v.resultList f.resultTypes.size)[j]? = some r → Value.okWide P W' .any 0 t r) :
    s.post enc P f apart fresh handsOn again W args v W' := by
  have hlt : ∀ p ∈ before, p.block < W.heap.size := fun p hp => hW.lt p hp
  have hold : ∀ p ∈ before, (fun b => decide (b < W.heap.size)) p.block = true := fun p hp => by simpa using hlt p hp
  refine ⟨ds, gs, before, [], pa, pv, hW, hres _ _ _, hargs _ hold, hvars _ hold, World.keptBut_mono (fun p hp => ⟨hp, ?_⟩) (hb.frame (· ∈ before)), fun _ => ?_⟩
  · rw [hps, List.mem_append] at hp
    exact Or.inr hp
  · obtain ⟨_, _, _, _, _, hz, hn⟩ := hW
    refine ⟨hok, _, _, ([] ++ pa) ++ pv, ⟨[] ++ pa, pv, trodAll_append (hargs _ (fun _ _ => rfl)) (hres _ _ _), hvars _ (fun _ _ => rfl), rfl, ?_, ?_⟩, ?_⟩
    · intro b off hp
      have hin : MemPlace.cell b off ∈ before := by rw [hps]; simpa using hp
      rw [hb.frozen (hlt _ hin)]
      exact hz b off hin
    · intro ha
      have := hn ha
      rw [hps] at this
      simpa using this
    · intro p hp _
      rw [hps]
      simpa using hp
end

/-- A call without arguments, whose answer is a plain value. -/
theorem calls_plain {X : Known} (hX : KnownOk Try.prog X) {n : Nat} {f : FuncId} {fn : Func} {c : Code} {v : Value}
    (hf : Try.prog.funcs[f]? = some fn) (hb : fn.body = some c) (hp : plain1 v = true) (hr : (callN vbeq Try.prog X n f [] H0).map (·.1) = some v) (w : World) :
    Calls Try.prog f #[] w fun e w' => Below w.heap.size w w' ∧ e = .returned v := by
  cases he : callN vbeq Try.prog X n f [] H0 with
  | none => rw [he] at hr; cases hr
  | some r =>
    obtain ⟨v0, h'⟩ := r
    rw [he] at hr
    simp only [Option.map_some, Option.some.injEq] at hr
    subst hr
    refine (calls_of_callN Try.progOk hX vbeq_eq hf hb he All2.nil w).mono ?_
    rintro e w' ⟨h1, v', μ', rfl, ho⟩
    exact ⟨h1, by rw [vr_plain_eq ho.val hp]⟩
end Go.Proofs.Ytddejgkfgnokgaa
end
section
namespace Go.Proofs.Ytddejgkfgnokgaa
open Go.RowKit Go.Abs
theorem tmod_cases {n d : Int} (hd : 0 < d) : (n.tmod d < 0 ∧ n.tmod d + d = n % d) ∨ (0 ≤ n.tmod d ∧ n.tmod d = n % d) := by
  have h1 := Int.emod_nonneg n (by omega : d ≠ 0)
  have h2 := Int.emod_lt_of_pos n hd
  have h3 : (d.natAbs : Int) = d := by omega
  have h := Int.tmod_eq_emod (a := n) (b := d)
  split at h <;> omega
set_option maxHeartbeats 400000 in
theorem within_walk (n lo hi : Int) (w : World) (_hn : -9223372036854775808 ≤ n ∧ n ≤ 9223372036854775807) (h1 : -1000000000000 ≤ lo) (h2 : lo ≤ hi) (h3 : hi ≤ 2000000000000) :
    Calls Try.prog 16 #[.int .i64 n, .int .i64 lo, .int .i64 hi] w fun e w' => e = .returned (.int .i64 (lo + n % (hi - lo + 1))) ∧ w' = w := by
  have ht := tmod_cases (n := n) (d := hi - lo + 1) (by omega)
  have h5 := Int.emod_nonneg n (by omega : hi - lo + 1 ≠ 0)
  have h6 := Int.emod_lt_of_pos n (by omega : 0 < hi - lo + 1)
  go_enter Try.func16, Try.ntmps16
  go_wp2
  · rename_i hneg
    go_ret
    refine ⟨?_, rfl⟩
    show Ending.returned (Value.int IntKind.i64 (lo + (n.tmod (hi - lo + 1) + hi - lo + 1))) = _
    congr 2; omega
  · rename_i hneg
    go_ret
    refine ⟨?_, rfl⟩
    show Ending.returned (Value.int IntKind.i64 (lo + n.tmod (hi - lo + 1))) = _
    congr 2; omega

theorem tok_mk {m r : Nat} {n : Int} (hr : r < 4096) (h1 : -9223372036854775808 ≤ n ∧ n ≤ 9223372036854775807) (h : n % (m : Int) = (r : Int)) : TokOk (m * 4096 + r) (.int .i64 n) := by
  refine ⟨n, rfl, h1.1, h1.2, ?_⟩
  rw [show (m * 4096 + r) / 4096 = m from by omega, show (m * 4096 + r) % 4096 = r from by omega]
  exact h
theorem i64_range {n : Int} (h : (Lit.int .i64 n).wf = true) : -9223372036854775808 ≤ n ∧ n ≤ 9223372036854775807 := by
  simp only [Lit.wf, Bool.and_eq_true, decide_eq_true_eq] at h
  exact h

/-- Within, of a number, or of a number known by its rest. -/
def withinG (args : List Value) (h : Hp) : Option (Value × Hp) :=
  match args with
  | [.int .i64 n, .int .i64 lo, .int .i64 hi] =>
    if -9223372036854775808 ≤ n ∧ n ≤ 9223372036854775807 ∧ -1000000000000 ≤ lo ∧ lo ≤ hi ∧ hi ≤ 2000000000000 then some (.int .i64 (lo + n % (hi - lo + 1)), h) else none
  | [.chan (some i), .int .i64 lo, .int .i64 hi] =>
    if -1000000000000 ≤ lo ∧ lo ≤ hi ∧ hi ≤ 2000000000000 ∧ ((i / 4096 : Nat) : Int) = hi - lo + 1 then some (.int .i64 (lo + ((i % 4096 : Nat) : Int)), h) else none
  | _ => none
def XWithin : Known := fun f => if f = 16 then some withinG else none

theorem vr_int {μ : Mu} {n : Int} {v : Value} (h : VR μ (.int .i64 n) v) : v = .int .i64 n := vr_plain_eq h rfl

theorem knownOk_within : KnownOk Try.prog XWithin := by
  intro f g hg args h v h' he
  unfold XWithin at hg
  split at hg
  · rename_i hf; subst hf
    simp only [Option.some.injEq] at hg; subst hg
    have hname : ∀ (args' : Array Value) (w : World), (callFunc 16 args').run Try.prog w = .ok (.enter 16 args') w := by
      intro args' w
      have hn := Try.progOk.name Try.func16
      obtain ⟨c, hb⟩ : ∃ c, Try.f16.body = some c := ⟨_, rfl⟩
      simp [callFunc, Try.func16, hn, hb]
    unfold withinG at he
    split at he
    · rename_i n lo hi
      split at he
      · rename_i hc
        obtain ⟨a1, a2, a3, a4, a5⟩ := hc
        simp only [Option.some.injEq, Prod.mk.injEq] at he; obtain ⟨rfl, rfl⟩ := he
        refine ⟨Nat.le_refl _, fun {μ base w args'} hl hr _ => .inr ⟨hname args' w, ?_⟩⟩
        obtain ⟨v1, l1, e1, r1, hl⟩ := hl.inv_cons
        obtain ⟨v2, l2, e2, r2, hl⟩ := hl.inv_cons
        obtain ⟨v3, l3, e3, r3, hl⟩ := hl.inv_cons
        have e4 := hl.inv_nil
        rw [vr_int r1] at e1; rw [vr_int r2] at e2; rw [vr_int r3] at e3
        subst e4; subst e3; subst e2
        have : args' = #[.int .i64 n, .int .i64 lo, .int .i64 hi] := Array.toList_inj.1 e1
        subst this
        refine (within_walk n lo hi w ⟨a1, a2⟩ a3 a4 a5).mono ?_
        rintro e w' ⟨rfl, rfl⟩
        exact ⟨_, rfl, μ, .same (.plain1 rfl) (Sim.refl hr) rfl (.refl μ _)⟩
      · cases he
    · rename_i i lo hi
      split at he
      · rename_i hc
        obtain ⟨a3, a4, a5, a6⟩ := hc
        simp only [Option.some.injEq, Prod.mk.injEq] at he; obtain ⟨rfl, rfl⟩ := he
        refine ⟨Nat.le_refl _, fun {μ base w args'} hl hr _ => .inr ⟨hname args' w, ?_⟩⟩
        obtain ⟨v1, l1, e1, r1, hl⟩ := hl.inv_cons
        obtain ⟨v2, l2, e2, r2, hl⟩ := hl.inv_cons
        obtain ⟨v3, l3, e3, r3, hl⟩ := hl.inv_cons
        have e4 := hl.inv_nil
        rw [vr_int r2] at e2; rw [vr_int r3] at e3
        obtain ⟨n, rfl, b1, b2, b3⟩ := vr_tok r1
        subst e4; subst e3; subst e2
        have : args' = #[.int .i64 n, .int .i64 lo, .int .i64 hi] := Array.toList_inj.1 e1
        subst this
        refine (within_walk n lo hi w ⟨b1, b2⟩ a3 a4 a5).mono ?_
        rintro e w' ⟨rfl, rfl⟩
        rw [← a6, b3]
        exact ⟨_, rfl, μ, .same (.plain1 rfl) (Sim.refl hr) rfl (.refl μ _)⟩
      · cases he
    · cases he
  · cases hg
end Go.Proofs.Ytddejgkfgnokgaa
end
section
namespace Go.Abs
open Go

inductive Vt where
  | leaf
  | node (v : Value) (l r : Vt)

noncomputable def Vt.get (t : Vt) : Nat → Value :=
  @Vt.rec (fun _ => Nat → Value) (fun _ => undef) (fun v _ _ gl gr i => @Nat.rec (fun _ => Value) v (fun j _ => @Bool.rec (fun _ => Value) (gr (j / 2)) (gl (j / 2)) (Nat.beq (j % 2) 0)) i) t
noncomputable def Vt.top (t : Vt) : Value := @Vt.rec (fun _ => Value) undef (fun v _ _ _ _ => v) t
noncomputable def Vt.left (t : Vt) : Vt := @Vt.rec (fun _ => Vt) .leaf (fun _ l _ _ _ => l) t
noncomputable def Vt.right (t : Vt) : Vt := @Vt.rec (fun _ => Vt) .leaf (fun _ _ r _ _ => r) t
noncomputable def Vt.put (f : Nat) (v : Value) : Vt → Nat → Vt :=
  @Nat.rec (fun _ => Vt → Nat → Vt) (fun t _ => t)
    (fun _ ih t i => @Nat.rec (fun _ => Vt) (.node v t.left t.right) (fun j _ => @Bool.rec (fun _ => Vt) (.node t.top t.left (ih t.right (j / 2))) (.node t.top (ih t.left (j / 2)) t.right) (Nat.beq (j % 2) 0)) i) f

theorem Vt.get_zero (t : Vt) : t.get 0 = t.top := by cases t <;> rfl
theorem Vt.get_succ (t : Vt) (j : Nat) : t.get (j + 1) = if j % 2 = 0 then t.left.get (j / 2) else t.right.get (j / 2) := by
  cases t with
  | leaf => show undef = _; split <;> rfl
  | node v l r =>
    show @Bool.rec (fun _ => Value) (r.get (j / 2)) (l.get (j / 2)) (Nat.beq (j % 2) 0) = _
    by_cases h : j % 2 = 0
    · rw [h]; rfl
    · have : Nat.beq (j % 2) 0 = false := beq_off h
      rw [this, if_neg h]; rfl
theorem Vt.put_zero (f : Nat) (v : Value) (t : Vt) : Vt.put (f + 1) v t 0 = .node v t.left t.right := rfl
theorem Vt.put_succ (f : Nat) (v : Value) (t : Vt) (j : Nat) :
    Vt.put (f + 1) v t (j + 1) = if j % 2 = 0 then .node t.top (Vt.put f v t.left (j / 2)) t.right else .node t.top t.left (Vt.put f v t.right (j / 2)) := by
  show @Bool.rec (fun _ => Vt) (Vt.node t.top t.left (Vt.put f v t.right (j / 2))) (.node t.top (Vt.put f v t.left (j / 2)) t.right) (Nat.beq (j % 2) 0) = _
  by_cases h : j % 2 = 0
  · rw [h]; rfl
  · have : Nat.beq (j % 2) 0 = false := beq_off h
    rw [this, if_neg h]
theorem Vt.get_put (v : Value) : ∀ (f : Nat) (t : Vt) (i j : Nat), i < f → (Vt.put f v t i).get j = if j = i then v else t.get j := by
  intro f
  induction f with
  | zero => intro t i j h; omega
  | succ f ih =>
    intro t i j h
    cases i with
    | zero =>
      rw [Vt.put_zero]
      cases j with
      | zero => rfl
      | succ j => rw [if_neg (by omega), Vt.get_succ, Vt.get_succ]; rfl
    | succ i =>
      rw [Vt.put_succ]
      cases j with
      | zero =>
        have e : ¬ (0 = i + 1) := by omega
        rw [if_neg e, Vt.get_zero t]
        split <;> rfl
      | succ j =>
        rw [Vt.get_succ t]
        split
        · rename_i hi
          rw [Vt.get_succ]
          split
          · rename_i hj
            show (Vt.put f v t.left (i / 2)).get (j / 2) = _
            rw [ih _ _ _ (by omega)]
            by_cases e : j = i
            · subst e; simp
            · rw [if_neg (by omega), if_neg (by omega)]
          · rw [if_neg (by omega)]; rfl
        · rename_i hi
          rw [Vt.get_succ]
          split
          · rw [if_neg (by omega)]; rfl
          · rename_i hj
            show (Vt.put f v t.right (i / 2)).get (j / 2) = _
            rw [ih _ _ _ (by omega)]
            by_cases e : j = i
            · subst e; simp
            · rw [if_neg (by omega), if_neg (by omega)]

/-- Slots in a tree. -/
structure Sf where
  t : Vt
  h : Hp

noncomputable def listF (m : Nat) (t : Vt) : List Value := (List.range m).map t.get
noncomputable def stF (m : Nat) (f : Sf) : St := ⟨listF m f.t, f.h⟩

noncomputable def evF (m : Nat) (t : Vt) : Operand → Value
  | .tmp i => cond (Nat.ble m i) undef (t.get i)
  | .const v => v
  | .global _ => undef
  | .func f => .func (.func f) #[] #[]

theorem listF_get (m : Nat) (t : Vt) (i : Nat) : (listF m t)[i]? = if i < m then some (t.get i) else none := by
  unfold listF
  rw [List.getElem?_map]
  by_cases h : i < m
  · rw [List.getElem?_range h, if_pos h]; rfl
  · rw [List.getElem?_eq_none (by simpa using h), if_neg h]; rfl

theorem ble_eqF (a b : Nat) : Nat.ble a b = decide (a ≤ b) := by
  rw [Bool.eq_iff_iff, decide_eq_true_iff, Nat.ble_eq]

theorem evF_eq (m : Nat) (t : Vt) : evA (listF m t) = evF m t := by
  funext x
  cases x with
  | tmp i =>
    show (listF m t).getD i undef = cond (Nat.ble m i) undef (t.get i)
    rw [List.getD_eq_getElem?_getD, listF_get, ble_eqF]
    by_cases h : i < m
    · have h2 : ¬ (m ≤ i) := Nat.not_le.2 h
      simp [h, h2]
    · have h2 : m ≤ i := Nat.not_lt.1 h
      simp [h, h2]
  | _ => rfl

noncomputable def putF (m : Nat) (t : Vt) (dst : Option Tmp) (v : Value) : Vt :=
  match dst with
  | some d => cond (Nat.ble m d) t (Vt.put m v t d)
  | none => t

theorem putF_eq (m : Nat) (t : Vt) (dst : Option Tmp) (v : Value) (h0 h : Hp) : (⟨St.put ⟨listF m t, h0⟩ dst v, h⟩ : St) = stF m ⟨putF m t dst v, h⟩ := by
  show (⟨_, h⟩ : St) = ⟨_, h⟩
  congr 1
  cases dst with
  | none => rfl
  | some d =>
    show (listF m t).set d v = listF m (cond (Nat.ble m d) t (Vt.put m v t d))
    apply List.ext_getElem?
    intro i
    rw [List.getElem?_set, listF_get, listF_get, ble_eqF]
    have hl : (listF m t).length = m := by simp [listF]
    by_cases hd : d < m
    · have h2 : ¬ (m ≤ d) := Nat.not_le.2 hd
      simp only [h2, decide_false, cond_false, hl]
      rw [Vt.get_put v m t d i hd]
      by_cases e : d = i
      · subst e; simp [hd]
      · rw [if_neg e, if_neg (Ne.symm e)]
    · have h2 : m ≤ d := Nat.not_lt.1 hd
      simp only [h2, decide_true, cond_true, hl]
      by_cases e : d = i
      · subst e; simp [hd]
      · rw [if_neg e]

noncomputable def yieldedF (m : Nat) (ops : Array Oper) (t : Vt) (j : Nat) : Option Bool :=
  match (ops[j]?).bind (·.dst) with
  | some i => cond (Nat.ble m i) none (match t.get i with
    | .bool b => some b
    | _ => none)
  | none => none
noncomputable def wantedF (m : Nat) (ops : Array Oper) (o : Oper) (t : Vt) : Bool :=
  match o.guard with
  | none => true
  | some (j, want) => yieldedF m ops t j == some want
theorem wantedF_eq (m : Nat) (ops : Array Oper) (o : Oper) (t : Vt) : wantedA ops o (listF m t) = wantedF m ops o t := by
  unfold wantedA wantedF
  cases o.guard with
  | none => rfl
  | some g =>
    obtain ⟨j, want⟩ := g
    have : yieldedA ops (listF m t) j = yieldedF m ops t j := by
      unfold yieldedA yieldedF
      cases (ops[j]?).bind (·.dst) with
      | none => rfl
      | some i =>
        simp only [Option.bind_some]
        rw [listF_get, ble_eqF]
        by_cases h : i < m
        · have h2 : ¬ (m ≤ i) := Nat.not_le.2 h
          simp only [h, h2, if_true, decide_false, cond_false]
          split
          · rename_i b hb; simp only [Option.some.injEq] at hb; rw [hb]
          · rename_i hb
            split
            · rename_i b hb'; exact absurd (by rw [hb']) (hb b)
            · rfl
        · have h2 : m ≤ i := Nat.not_lt.1 h
          simp [h, h2]
    simp only [this]

/-- So many elements turned over onto a list; a pair is handed back, so that the kernel's stack unwinds. -/
noncomputable def revC (n : Nat) : List Value → List Value → List Value × List Value :=
  @Nat.rec (fun _ => List Value → List Value → List Value × List Value) (fun l acc => (l, acc)) (fun _ ih l acc => @List.rec Value (fun _ => List Value × List Value) ([], acc) (fun x l _ => ih l (x :: acc)) l) n
theorem revC_spec : ∀ (n : Nat) (l acc : List Value), (revC n l acc).1.reverse ++ (revC n l acc).2 = l.reverse ++ acc
  | 0, _, _ => rfl
  | n + 1, [], _ => rfl
  | n + 1, x :: l, acc => by
    show (revC n l (x :: acc)).1.reverse ++ (revC n l (x :: acc)).2 = _
    rw [revC_spec n l (x :: acc), List.reverse_cons, List.append_assoc]; rfl
noncomputable def revAll {α : Type} (n : Nat) : List Value → List Value → (List Value → α) → α :=
  @Nat.rec (fun _ => List Value → List Value → (List Value → α) → α) (fun l acc K => K (l.reverse ++ acc)) (fun _ ih l acc K => @Prod.rec (List Value) (List Value) (fun _ => α) (fun l' acc' => @List.rec Value (fun _ => α) (K acc') (fun x l'' _ => ih (x :: l'') acc' K) l') (revC 64 l acc)) n
theorem revAll_spec {α : Type} : ∀ (n : Nat) (l acc : List Value) (K : List Value → α), revAll n l acc K = K (l.reverse ++ acc)
  | 0, _, _, _ => rfl
  | n + 1, l, acc, K => by
    have h := revC_spec 64 l acc
    show @Prod.rec (List Value) (List Value) (fun _ => α) (fun l' acc' => @List.rec Value (fun _ => α) (K acc') (fun x l'' _ => revAll n (x :: l'') acc' K) l') (revC 64 l acc) = _
    generalize revC 64 l acc = p at h ⊢
    obtain ⟨l', acc'⟩ := p
    rw [← h]
    cases l' with
    | nil => rfl
    | cons x l'' => exact revAll_spec n (x :: l'') acc' K
/-- A list is worked out before it is handed on. -/
noncomputable def forceSp {α : Type} (l : List Value) (K : List Value → α) : α := revAll 1000 l [] fun r => revAll 1000 r [] K
theorem forceSp_eq {α : Type} (l : List Value) (K : List Value → α) : forceSp l K = K l := by
  unfold forceSp
  rw [revAll_spec, revAll_spec, List.append_nil, List.append_nil, List.reverse_reverse]
/-- append, its cells worked out. -/
noncomputable def appendF (P : Program) (st xt : TypeId) (s x : Value) (h : Hp) : Option (Value × Hp) :=
  match P.underlying st with
  | some (.slice e) => match P.info? e, zeroA P e with
    | some i, some z =>
      if 0 < i.size ∧ z.cells.size = i.size then
        match sourceA P i.size xt z.cells.toList x h with
        | some (m, news) =>
          if m = 0 then (match s with | .slice _ _ _ => some (s, h) | _ => none)
          else match s with
            | .slice none 0 0 =>
              if m * i.bytes ≤ 140737488355328 ∧ m ≤ 4611686018427387904 then (forceSp (news) fun fl => some (.slice (some ⟨h.next, 0, none⟩) m (unk i.size), h.push (.cells fl false))) else none
            | .slice (some ⟨b, o, none⟩) len cap =>
              if (len + m) * i.bytes ≤ 140737488355328 ∧ len + m ≤ 4611686018427387904 then
                if isUnk cap then
                  match h.get b with
                  | some (.cells cs false) =>
                    if cap = unk i.size ∧ o + len * i.size ≤ cs.length ∧ len * i.size + news.length ≠ 1 then
                      (forceSp (((cs.drop o).take (len * i.size) ++ news)) fun fl => some (.slice (some ⟨h.next, 0, none⟩) (len + m) cap, (h.put b none).push (.cells fl false)))
                    else none
                  | _ => none
                else if len + m ≤ cap then
                  match h.get b with
                  | some (.cells cs false) =>
                    if o + (len + m) * i.size ≤ cs.length then (forceSp ((spliceL cs (o + len * i.size) news)) fun fl => some (.slice (some ⟨b, o, none⟩) (len + m) cap, h.put b (some (.cells fl false))))
                    else none
                  | _ => none
                else match h.cells b o (len * i.size) with
                  | some olds => (forceSp ((olds ++ news)) fun fl => some (.slice (some ⟨h.next, 0, none⟩) (len + m) (unk i.size), h.push (.cells fl false)))
                  | none => none
              else none
            | _ => none
        | none => none
      else none
    | _, _ => none
  | _ => none
theorem appendF_eq (P : Program) (st xt : TypeId) (s x : Value) (h : Hp) : appendF P st xt s x h = appendA P st xt s x h := by
  unfold appendF
  rw [show @forceSp (Option (Value × Hp)) = fun l K => K l from funext fun l => funext fun K => forceSp_eq l K]
  rfl
noncomputable def stepEF (m : Nat) (P : Program) (o : Oper) (t : Vt) (h : Hp) : Option (Value × Hp) :=
  match o.op with
  | .call { callee := .builtin .append, args, argTypes } => match argTypes.toList, args.toList.map (evF m t) with
    | [st, xt], [s, x] => appendF P st xt s x h
    | _, _ => none
  | _ => stepE P (evF m t) o h
theorem stepEF_eq (m : Nat) (P : Program) (o : Oper) (t : Vt) (h : Hp) : stepE P (evF m t) o h = stepEF m P o t h := by
  unfold stepEF
  split
  · rename_i args argTypes hop
    unfold stepE
    rw [hop]
    simp only
    generalize argTypes.toList = l1
    generalize args.toList.map (evF m t) = l2
    rcases l1 with _ | ⟨a, _ | ⟨b, _ | ⟨c, l1⟩⟩⟩ <;> rcases l2 with _ | ⟨d, _ | ⟨e, _ | ⟨f, l2⟩⟩⟩ <;> first
      | rfl
      | exact (appendF_eq P _ _ _ _ h).symm
  · rfl
noncomputable def stepF (m : Nat) (P : Program) (call : Caller) (o : Oper) (t : Vt) (h : Hp) : Option (Value × Hp) :=
  if o.op.operands.toList.all okOperand then
    match kindOf P o.op with
    | .T => match stepT P (evF m t) o with
      | some v => some (v, h)
      | none => none
    | .R => match stepR P (evF m t) o h with
      | some v => some (v, h)
      | none => none
    | .N => match stepN P (evF m t) o with
      | some (b, g) => some (g h.next, h.push b)
      | none => none
    | .E => stepEF m P o t h
    | .C => match o.op with
      | .call c => match callee (evF m t) c with
        | some (g, args) => call g args h
        | none => none
      | _ => none
    | .bad => none
  else none
theorem stepF_eq (m : Nat) (P : Program) (call : Caller) (o : Oper) (t : Vt) (h : Hp) : stepO P call o ⟨listF m t, h⟩ = stepF m P call o t h := by
  unfold stepO stepF
  rw [evF_eq]
  split
  · cases kindOf P o.op with
    | T => simp only; cases stepT P (evF m t) o <;> rfl
    | R => simp only; cases stepR P (evF m t) o h <;> rfl
    | N => simp only; cases stepN P (evF m t) o <;> rfl
    | E => exact stepEF_eq m P o t h
    | C => rfl
    | bad => rfl
  · rfl

noncomputable def liveF (m : Nat) (ops : Array Oper) (o : Oper) (t : Vt) : Bool :=
  match o.guard with
  | none => true
  | some (j, _) => match (ops[j]?).bind (·.dst) with
    | some i => cond (Nat.ble m i) true (knownV (t.get i))
    | none => true
theorem liveF_eq (m : Nat) (ops : Array Oper) (o : Oper) (t : Vt) : liveG ops o (listF m t) = liveF m ops o t := by
  unfold liveG liveF
  cases o.guard with
  | none => rfl
  | some g =>
    obtain ⟨j, want⟩ := g
    simp only
    cases (ops[j]?).bind (·.dst) with
    | none => rfl
    | some i =>
      simp only [Option.bind_some]
      rw [listF_get, ble_eqF]
      by_cases h : i < m
      · have h2 : ¬ (m ≤ i) := Nat.not_le.2 h
        simp [h, h2]
      · have h2 : m ≤ i := Nat.not_lt.1 h
        simp [h, h2]

noncomputable def runOpsF (m : Nat) (P : Program) (call : Caller) (ops : Array Oper) : List Oper → Vt → Hp → Option Sf
  | [], t, h => some ⟨t, h⟩
  | o :: rest, t, h =>
    if liveF m ops o t then
    if wantedF m ops o t then
      match stepF m P call o t h with
      | some (v, h') => runOpsF m P call ops rest (putF m t o.dst v) h'
      | none => none
    else runOpsF m P call ops rest (putF m t o.dst undef) h
    else none
theorem runOpsF_eq (m : Nat) (P : Program) (call : Caller) (ops : Array Oper) : ∀ (l : List Oper) (t : Vt) (h : Hp), runOps P call ops l ⟨listF m t, h⟩ = (runOpsF m P call ops l t h).map (stF m)
  | [], t, h => rfl
  | o :: rest, t, h => by
    unfold runOps runOpsF
    rw [liveF_eq, wantedF_eq, stepF_eq]
    split
    · split
      · cases stepF m P call o t h with
        | none => rfl
        | some r =>
          simp only
          rw [putF_eq]
          exact runOpsF_eq m P call ops rest _ _
      · rw [putF_eq]
        exact runOpsF_eq m P call ops rest _ _
    · rfl

noncomputable def runOpsTF (m : Nat) (P : Program) (call : Caller) (ops : Array Oper) : List Oper → Vt → Hp → Option (List Sf)
  | [], t, h => some [⟨t, h⟩]
  | o :: rest, t, h =>
    if liveF m ops o t then
    if wantedF m ops o t then
      match stepF m P call o t h with
      | some (v, h') => match runOpsTF m P call ops rest (putF m t o.dst v) h' with
        | some l => some (⟨t, h⟩ :: l)
        | none => none
      | none => none
    else match runOpsTF m P call ops rest (putF m t o.dst undef) h with
      | some l => some (⟨t, h⟩ :: l)
      | none => none
    else none
theorem runOpsTF_eq (m : Nat) (P : Program) (call : Caller) (ops : Array Oper) : ∀ (l : List Oper) (t : Vt) (h : Hp), runOpsT P call ops l ⟨listF m t, h⟩ = (runOpsTF m P call ops l t h).map (List.map (stF m))
  | [], t, h => rfl
  | o :: rest, t, h => by
    unfold runOpsT runOpsTF
    rw [liveF_eq, wantedF_eq, stepF_eq]
    split
    · split
      · cases stepF m P call o t h with
        | none => rfl
        | some r =>
          simp only
          rw [putF_eq, show stF m ⟨putF m t o.dst r.1, r.2⟩ = ⟨listF m (putF m t o.dst r.1), r.2⟩ from rfl, runOpsTF_eq m P call ops rest]
          cases runOpsTF m P call ops rest _ _ <;> rfl
      · rw [putF_eq, show stF m ⟨putF m t o.dst undef, h⟩ = ⟨listF m (putF m t o.dst undef), h⟩ from rfl, runOpsTF_eq m P call ops rest]
        cases runOpsTF m P call ops rest _ _ <;> rfl
    · rfl

noncomputable def sameReadF (m : Nat) (chk : Chk) (P : Program) (o : Oper) (si sj : Sf) : Bool :=
  match stepR P (evF m si.t) o si.h, stepR P (evF m si.t) o sj.h with
  | some u, some v => chk u v
  | _, _ => false
noncomputable def pairOkF (m : Nat) (chk : Chk) (P : Program) (ops : Array Oper) (tr : List Sf) (p : Nat × Nat) : Bool :=
  match ops[p.1]?, tr[p.1]?, tr[p.2]?, tr[p.2 + 1]? with
  | some o, some si, some sj, some sk => !wantedF m ops o si.t || (sameReadF m chk P o si sj && sameReadF m chk P o si sk)
  | _, _, _, _ => false
theorem sameReadF_eq (m : Nat) (chk : Chk) (P : Program) (o : Oper) (si sj : Sf) : sameRead chk P o (stF m si) (stF m sj) = sameReadF m chk P o si sj := by
  unfold sameRead sameReadF
  rw [show evA (stF m si).tmps = evF m si.t from evF_eq m si.t]; rfl
theorem pairOkF_eq (m : Nat) (chk : Chk) (P : Program) (ops : Array Oper) (tr : List Sf) (p : Nat × Nat) : pairOk chk P ops (tr.map (stF m)) p = pairOkF m chk P ops tr p := by
  unfold pairOk pairOkF
  simp only [List.getElem?_map]
  cases ops[p.1]? with
  | none => rfl
  | some o =>
    cases tr[p.1]? with
    | none => rfl
    | some si =>
      cases tr[p.2]? with
      | none => rfl
      | some sj =>
        cases tr[p.2 + 1]? with
        | none => rfl
        | some sk =>
          simp only [Option.map_some, sameReadF_eq]
          rw [show wantedA ops o (stF m si).tmps = wantedF m ops o si.t from wantedF_eq m ops o si.t]

noncomputable def runDrawF (m : Nat) (chk : Chk) (P : Program) (call : Caller) (ops : Array Oper) (t : Vt) (h : Hp) : Option Sf :=
  if staticOk P ops then
    match runOpsTF m P call ops ops.toList t h with
    | some tr => if (drawPairs P ops).all (pairOkF m chk P ops tr) then tr[ops.size]? else none
    | none => none
  else none
theorem runDrawF_eq (m : Nat) (chk : Chk) (P : Program) (call : Caller) (ops : Array Oper) (t : Vt) (h : Hp) : runDraw chk P call ops ⟨listF m t, h⟩ = (runDrawF m chk P call ops t h).map (stF m) := by
  unfold runDraw runDrawF
  rw [runOpsTF_eq]
  split
  · cases runOpsTF m P call ops ops.toList t h with
    | none => rfl
    | some tr =>
      simp only [Option.map_some]
      rw [show pairOk chk P ops (tr.map (stF m)) = pairOkF m chk P ops tr from funext fun p => pairOkF_eq m chk P ops tr p]
      split
      · rw [List.getElem?_map]
      · rfl
  · rfl

noncomputable def resultF (m : Nat) (P : Program) (f : Sf) : ResultVar → Option Value
  | .tmp t => some (evF m f.t (.tmp t))
  | .cell a t => loadA P t (evF m f.t (.tmp a)) f.h
noncomputable def resultsLF (m : Nat) (P : Program) (f : Sf) : List ResultVar → Option (List Value)
  | [] => some []
  | r :: rest => match resultF m P f r, resultsLF m P f rest with
    | some v, some l => some (v :: l)
    | _, _ => none
noncomputable def resultsF (m : Nat) (P : Program) (fn : Func) (f : Sf) : Option Value :=
  match resultsLF m P f fn.results.toList with
  | some [v] => some v
  | some vs => if vs.all noTuple then some (.tuple vs.toArray) else none
  | none => none
theorem resultsLF_eq (m : Nat) (P : Program) (f : Sf) : ∀ (l : List ResultVar), resultsL P (stF m f) l = resultsLF m P f l
  | [] => rfl
  | r :: l => by
    unfold resultsL resultsLF
    rw [resultsLF_eq m P f l]
    have : resultA P (stF m f) r = resultF m P f r := by
      cases r with
      | tmp t => show some (evA (listF m f.t) (.tmp t)) = _; rw [evF_eq]; rfl
      | cell a t => show loadA P t (evA (listF m f.t) (.tmp a)) f.h = _; rw [evF_eq]; rfl
    rw [this]; rfl
theorem resultsF_eq (m : Nat) (P : Program) (fn : Func) (f : Sf) : resultsA P fn (stF m f) = resultsF m P fn f := by
  unfold resultsA resultsF
  rw [resultsLF_eq]; rfl

/-- A list's values from a place on. -/
noncomputable def layF (n : Nat) : List Value → Nat → Vt → Vt
  | [], _, t => t
  | v :: l, k, t => layF n l (k + 1) (Vt.put n v t k)
theorem layF_get (n : Nat) : ∀ (l : List Value) (k : Nat) (t : Vt) (i : Nat), k + l.length ≤ n → (layF n l k t).get i = if k ≤ i then (match l[i - k]? with | some v => v | none => t.get i) else t.get i
  | [], k, t, i, _ => by simp [layF]
  | v :: l, k, t, i, h => by
    simp only [List.length_cons] at h
    unfold layF
    rw [layF_get n l (k + 1) _ i (by omega), Vt.get_put v n t k i (by omega)]
    by_cases h1 : i = k
    · subst h1
      have e : ¬ (i + 1 ≤ i) := by omega
      rw [if_neg e, if_pos rfl, if_pos (Nat.le_refl _), Nat.sub_self]; rfl
    · rw [if_neg h1]
      by_cases h2 : k + 1 ≤ i
      · have h3 : k ≤ i := by omega
        rw [if_pos h2, if_pos h3, show i - k = (i - (k + 1)) + 1 from by omega, List.getElem?_cons_succ]
      · have h3 : ¬ (k ≤ i) := by omega
        rw [if_neg h2, if_neg h3]

noncomputable def startF (m : Nat) (args : List Value) (h : Hp) : Sf := ⟨layF m args 0 .leaf, h⟩
theorem startF_eq (args : List Value) (n : Nat) (h : Hp) : (⟨args ++ List.replicate (n - args.length) undef, h⟩ : St) = stF (args.length + (n - args.length)) (startF (args.length + (n - args.length)) args h) := by
  show (⟨_, h⟩ : St) = ⟨_, h⟩
  congr 1
  apply List.ext_getElem?
  intro i
  rw [listF_get]
  show _ = if i < args.length + (n - args.length) then some ((layF (args.length + (n - args.length)) args 0 .leaf).get i) else none
  rw [layF_get _ _ _ _ _ (by omega)]
  simp only [Nat.zero_le, if_true, Nat.sub_zero]
  by_cases h1 : i < args.length
  · rw [List.getElem?_append_left h1, if_pos (by omega), List.getElem?_eq_getElem h1]
  · rw [List.getElem?_append_right (by omega), List.getElem?_replicate, List.getElem?_eq_none (by omega : args.length ≤ i)]
    by_cases h2 : i < args.length + (n - args.length)
    · rw [if_pos (by omega), if_pos h2]; rfl
    · rw [if_neg (by omega), if_neg h2]

/-- A number is worked out before it is handed on. -/
noncomputable def forceN {α : Type} (n : Nat) (k : Nat → α) : α := @Nat.rec (fun _ => α) (k 0) (fun i _ => k (Nat.succ i)) n
theorem forceN_eq {α : Type} (n : Nat) (k : Nat → α) : forceN n k = k n := by cases n <;> rfl

noncomputable def callWithF (P : Program) (X : Known) (rc : Nat → Code → Sf → Option (Ex × Sf)) : Caller := fun f args h =>
  match X f with
  | some g => g args h
  | none =>
  match P.funcs[f]? with
  | none => none
  | some fn =>
    match fn.body with
    | none => externA fn.name fn.origin args h
    | some c => forceN (args.length + (fn.ntmps - args.length)) fun m => match rc m c (startF m args h) with
      | some (.normal, s) | some (.ret, s) => match resultsF m P fn s with
        | some v => some (v, s.h)
        | none => none
      | _ => none

noncomputable def runF (chk : Chk) (P : Program) (X : Known) : Nat → Nat → Code → Sf → Option (Ex × Sf)
  | 0, _, _, _ => none
  | n + 1, m, c, s =>
    match c with
    | .skip => some (.normal, s)
    | .label _ => some (.normal, s)
    | .ret => some (.ret, s)
    | .exit id => some (.exit id, s)
    | .goto l => some (.goto l, s)
    | .region _ ops draw =>
      if draw then match runDrawF m chk P (callWithF P X (runF chk P X n)) ops s.t s.h with
        | some s' => some (.normal, s')
        | none => none
      else match runOpsF m P (callWithF P X (runF chk P X n)) ops ops.toList s.t s.h with
        | some s' => some (.normal, s')
        | none => none
    | .seq a b => match runF chk P X n m a s with
      | some (.normal, s1) => runF chk P X n m b s1
      | r => r
    | .cond c a b => if okOperand c then match condA (evF m s.t c) with
        | some t => runF chk P X n m (if t then a else b) s
        | none => none
      else none
    | .block id b => match runF chk P X n m b s with
      | some (.exit id', s1) => if id' = id then some (.normal, s1) else some (.exit id', s1)
      | r => r
    | .loop b => match runF chk P X n m b s with
      | some (.normal, s1) => runF chk P X n m (.loop b) s1
      | r => r
    | .scope b => match runF chk P X n m b s with
      | some (.goto l, s1) => match findLabel b l with
        | some rest => match runF chk P X n m rest s1 with
          | some (.goto _, _) => none
          | r => r
        | none => none
      | r => r
    | .rangeFunc .. => none
    | .refuse _ => none

theorem callWithF_eq (P : Program) (X : Known) {rc : Code → St → Option (Ex × St)} {rcF : Nat → Code → Sf → Option (Ex × Sf)} (h : ∀ m c f, rc c (stF m f) = (rcF m c f).map fun x => (x.1, stF m x.2)) : callWith P X rc = callWithF P X rcF := by
  funext f args hp
  unfold callWith callWithF
  cases X f with
  | some g => rfl
  | none =>
    simp only
    cases P.funcs[f]? with
    | none => rfl
    | some fn =>
      simp only
      cases fn.body with
      | none => rfl
      | some c =>
        simp only
        rw [startF_eq, h, forceN_eq]
        cases rcF _ c (startF (args.length + (fn.ntmps - args.length)) args hp) with
        | none => rfl
        | some r =>
          obtain ⟨ex, s⟩ := r
          simp only [Option.map_some]
          cases ex with
          | normal => simp only; rw [resultsF_eq]; rfl
          | ret => simp only; rw [resultsF_eq]; rfl
          | exit _ => rfl
          | goto _ => rfl

theorem runF_eq (chk : Chk) (P : Program) (X : Known) : ∀ (n m : Nat) (c : Code) (f : Sf), run chk P X n c (stF m f) = (runF chk P X n m c f).map fun x => (x.1, stF m x.2)
  | 0, m, c, f => rfl
  | n + 1, m, c, f => by
    have ih := runF_eq chk P X n
    have hc : callWith P X (run chk P X n) = callWithF P X (runF chk P X n) := callWithF_eq P X ih
    unfold run runF
    cases c with
    | skip => rfl
    | label _ => rfl
    | ret => rfl
    | exit _ => rfl
    | goto _ => rfl
    | rangeFunc _ _ _ _ => rfl
    | refuse _ => rfl
    | region _ ops draw =>
      simp only
      rw [hc, show stF m f = ⟨listF m f.t, f.h⟩ from rfl, runDrawF_eq, runOpsF_eq]
      split
      · cases runDrawF m chk P _ ops f.t f.h <;> rfl
      · cases runOpsF m P _ ops ops.toList f.t f.h <;> rfl
    | seq a b =>
      simp only
      rw [ih m a f]
      cases runF chk P X n m a f with
      | none => rfl
      | some r =>
        obtain ⟨ex, s⟩ := r
        cases ex with
        | normal => simp only [Option.map_some]; rw [ih m b s]
        | _ => rfl
    | cond c a b =>
      simp only
      rw [show evA (stF m f).tmps = evF m f.t from evF_eq m f.t]
      split
      · cases condA (evF m f.t c) with
        | none => rfl
        | some t => simp only; rw [ih m _ f]
      · rfl
    | block id b =>
      simp only
      rw [ih m b f]
      cases runF chk P X n m b f with
      | none => rfl
      | some r =>
        obtain ⟨ex, s⟩ := r
        cases ex with
        | exit id' => simp only [Option.map_some]; split <;> rfl
        | _ => rfl
    | loop b =>
      simp only
      rw [ih m b f]
      cases runF chk P X n m b f with
      | none => rfl
      | some r =>
        obtain ⟨ex, s⟩ := r
        cases ex with
        | normal => simp only [Option.map_some]; rw [ih m _ s]
        | _ => rfl
    | scope b =>
      simp only
      rw [ih m b f]
      cases runF chk P X n m b f with
      | none => rfl
      | some r =>
        obtain ⟨ex, s⟩ := r
        cases ex with
        | goto l =>
          simp only [Option.map_some]
          cases findLabel b l with
          | none => rfl
          | some rest =>
            simp only
            rw [ih m rest s]
            cases runF chk P X n m rest s with
            | none => rfl
            | some r =>
              obtain ⟨ex, s'⟩ := r
              cases ex <;> rfl
        | _ => rfl

noncomputable def callF (chk : Chk) (P : Program) (X : Known) (n : Nat) : Caller := callWithF P X (runF chk P X n)
theorem callF_eq (chk : Chk) (P : Program) (X : Known) (n : Nat) : callN chk P X n = callF chk P X n := callWithF_eq P X (runF_eq chk P X n)
end Go.Abs
end
