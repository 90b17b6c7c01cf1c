/-
  RatePlays: any calls: each answer, the pool, who has what; the rate falls by a new backing alone; a copy is by itself.
-/
import Derived.Test.YtddejgkfgnokgaaRa1
import Derived.Test.YtddejgkfgnokgaaFw6
import Derived.Test.YtddejgkfgnokgaaRows
section
namespace Go.Proofs.Ytddejgkfgnokgaa
open Go.RowKit Go.Abs Go
set_option maxRecDepth 100000
def kT (s : BS) : Value := .string s
abbrev AT := List (BS × Int)
def getT : AT → BS → Int
  | [], _ => 0
  | a :: r, u => if a.1 = u then a.2 else getT r u
def putT : AT → BS → Int → AT
  | [], u, v => [(u, v)]
  | a :: r, u, v => if a.1 = u then (u, v) :: r else a :: putT r u v
def delT : AT → BS → AT
  | [], _ => []
  | a :: r, u => if a.1 = u then r else a :: delT r u
def totT : AT → Int
  | [] => 0
  | a :: r => a.2 + totT r
def imgT (A : AT) : Ents := A.map fun a => (kT a.1, .int .i64 a.2)
theorem bsT_ext {a b : BS} (h : a.data.toList = b.data.toList) : a = b := by
  obtain ⟨⟨x⟩⟩ := a
  obtain ⟨⟨y⟩⟩ := b
  have h : x = y := h
  rw [h]
theorem keyT_b (a b : BS) : keyB zS (kT a) (kT b) = decide (a = b) := by
  show (a.data.toList == b.data.toList) = _
  by_cases e : a = b
  · rw [e, decide_eq_true rfl]; exact beq_self_eq_true _
  · rw [decide_eq_false e]
    simpa using fun h => e (bsT_ext (by simpa using h))
theorem has_img (u : BS) : ∀ A : AT, hasR (imgT A) u = getT A u
  | [] => rfl
  | a :: r => by
    show dint ((mfind zS ((kT a.1, .int .i64 a.2) :: imgT r) (kT u)).getD (.int .i64 0)) = _
    unfold mfind getT
    rw [keyT_b]
    by_cases e : a.1 = u
    · rw [if_pos (by simp [e]), if_pos e]; rfl
    · rw [if_neg (by simp [e]), if_neg e]; exact has_img u r
theorem set_img (u : BS) (v : Int) : ∀ A : AT, setR (imgT A) u v = imgT (putT A u v)
  | [] => rfl
  | a :: r => by
    show mput zS ((kT a.1, .int .i64 a.2) :: imgT r) (kT u) (.int .i64 v) = _
    unfold mput putT
    rw [keyT_b]
    by_cases e : a.1 = u
    · rw [if_pos (by simp [e]), if_pos e]; rfl
    · rw [if_neg (by simp [e]), if_neg e]
      have := set_img u v r
      have : mput zS (imgT r) (kT u) (.int .i64 v) = imgT (putT r u v) := this
      rw [this]; rfl
theorem del_img (u : BS) : ∀ A : AT, mdel zS (imgT A) (kT u) = imgT (delT A u)
  | [] => rfl
  | a :: r => by
    show mdel zS ((kT a.1, .int .i64 a.2) :: imgT r) (kT u) = _
    unfold mdel delT
    rw [keyT_b]
    by_cases e : a.1 = u
    · rw [if_pos (by simp [e]), if_pos e]
    · rw [if_neg (by simp [e]), if_neg e, del_img u r]; rfl
theorem tot_put (u : BS) (v : Int) : ∀ A : AT, totT (putT A u v) = totT A - getT A u + v
  | [] => by show v + 0 = 0 - 0 + v; omega
  | a :: r => by
    unfold putT getT
    by_cases e : a.1 = u
    · rw [if_pos e, if_pos e]
      show v + totT r = a.2 + totT r - a.2 + v
      omega
    · rw [if_neg e, if_neg e]
      have := tot_put u v r
      show a.2 + totT (putT r u v) = a.2 + totT r - getT r u + v
      omega
theorem tot_del (u : BS) : ∀ A : AT, totT (delT A u) = totT A - getT A u
  | [] => rfl
  | a :: r => by
    unfold delT getT
    by_cases e : a.1 = u
    · rw [if_pos e, if_pos e]
      show totT r = a.2 + totT r - a.2
      omega
    · rw [if_neg e, if_neg e]
      have := tot_del u r
      show a.2 + totT (delT r u) = a.2 + totT r - getT r u
      omega
theorem del_put (u : BS) (v : Int) : ∀ A : AT, delT (putT A u v) u = delT A u
  | [] => by
    show (if u = u then [] else _) = []
    rw [if_pos rfl]
  | a :: r => by
    by_cases e : a.1 = u
    · rw [show putT (a :: r) u v = (u, v) :: r from by unfold putT; rw [if_pos e], show delT ((u, v) :: r) u = r from by unfold delT; rw [if_pos rfl], show delT (a :: r) u = r from by unfold delT; rw [if_pos e]]
    · rw [show putT (a :: r) u v = a :: putT r u v from by conv => lhs; unfold putT; rw [if_neg e], show delT (a :: putT r u v) u = a :: delT (putT r u v) u from by conv => lhs; unfold delT; rw [if_neg e], del_put u v r, show delT (a :: r) u = a :: delT r u from by conv => lhs; unfold delT; rw [if_neg e]]
theorem get_le (u : BS) : ∀ {A : AT}, (∀ x ∈ A, 1 ≤ x.2) → 0 ≤ getT A u ∧ getT A u ≤ totT A
  | [], _ => ⟨Int.le_refl _, Int.le_refl _⟩
  | a :: r, h => by
    have h1 := h a List.mem_cons_self
    have h2 := get_le u (A := r) fun x hx => h x (List.mem_cons_of_mem _ hx)
    unfold getT
    show 0 ≤ _ ∧ _ ≤ a.2 + totT r
    split <;> omega
theorem put_mem {A : AT} {u : BS} {v : Int} (hn : (A.map Prod.fst).Nodup) : ((putT A u v).map Prod.fst).Nodup ∧ ∀ a ∈ putT A u v, a = (u, v) ∨ (a ∈ A ∧ a.1 ≠ u) := by
  induction A with
  | nil => exact ⟨by simp [putT], fun a ha => .inl (by simpa [putT] using ha)⟩
  | cons x r ih =>
    rw [List.map_cons, List.nodup_cons] at hn
    obtain ⟨i1, i2⟩ := ih hn.2
    unfold putT
    split
    · rename_i e
      refine ⟨by rw [List.map_cons, List.nodup_cons]; exact ⟨by rw [← e]; exact hn.1, hn.2⟩, fun a ha => ?_⟩
      rcases List.mem_cons.1 ha with rfl | ha
      · exact .inl rfl
      · refine .inr ⟨List.mem_cons_of_mem _ ha, fun h => hn.1 ?_⟩
        rw [e, ← h]; exact List.mem_map_of_mem ha
    · rename_i e
      refine ⟨?_, fun a ha => ?_⟩
      · rw [List.map_cons, List.nodup_cons]
        refine ⟨fun h => ?_, i1⟩
        obtain ⟨y, hy, hye⟩ := List.mem_map.1 h
        rcases i2 y hy with rfl | ⟨h2, _⟩
        · exact e hye.symm
        · exact hn.1 (by rw [← hye]; exact List.mem_map_of_mem h2)
      · rcases List.mem_cons.1 ha with rfl | ha
        · exact .inr ⟨List.mem_cons_self, e⟩
        · rcases i2 a ha with h | ⟨h1, h2⟩
          · exact .inl h
          · exact .inr ⟨List.mem_cons_of_mem _ h1, h2⟩
theorem del_mem {A : AT} {u : BS} (hn : (A.map Prod.fst).Nodup) : ((delT A u).map Prod.fst).Nodup ∧ ∀ a ∈ delT A u, a ∈ A := by
  induction A with
  | nil => exact ⟨by simp [delT], fun a ha => by simp [delT] at ha⟩
  | cons x r ih =>
    rw [List.map_cons, List.nodup_cons] at hn
    obtain ⟨i1, i2⟩ := ih hn.2
    unfold delT
    split
    · exact ⟨hn.2, fun a ha => List.mem_cons_of_mem _ ha⟩
    · refine ⟨?_, fun a ha => ?_⟩
      · rw [List.map_cons, List.nodup_cons]
        refine ⟨fun h => ?_, i1⟩
        obtain ⟨y, hy, hye⟩ := List.mem_map.1 h
        exact hn.1 (by rw [← hye]; exact List.mem_map_of_mem (i2 y hy))
      · rcases List.mem_cons.1 ha with rfl | ha
        · exact List.mem_cons_self
        · exact List.mem_cons_of_mem _ (i2 a ha)
theorem get_mem {A : AT} (hn : (A.map Prod.fst).Nodup) : ∀ x ∈ A, getT A x.1 = x.2 := by
  induction A with
  | nil => intro x hx; cases hx
  | cons a r ih =>
    rw [List.map_cons, List.nodup_cons] at hn
    intro x hx
    unfold getT
    rcases List.mem_cons.1 hx with rfl | hx
    · rw [if_pos rfl]
    · rw [if_neg, ih hn.2 x hx]
      intro e
      exact hn.1 (by rw [e]; exact List.mem_map_of_mem hx)
/-- Users, rising. -/
def KK (A : AT) : List BS := (sortS (fun x y => decide (x ≤ y)) (A.map fun a => a.1.data.toList)).map fun b => ⟨b.toArray⟩
theorem srtT_img (A : AT) : srtTR (imgT A) = (KK A).map kT := by
  unfold srtTR KK imgT
  rw [List.map_map, List.map_map]
  rfl
theorem KK_perm (A : AT) : (KK A).Perm (A.map Prod.fst) := by
  have h := (sortS_perm (fun x y : List UInt8 => decide (x ≤ y)) (A.map fun a => a.1.data.toList)).map fun b => (⟨b.toArray⟩ : BS)
  rw [List.map_map] at h
  have e : ((fun b : List UInt8 => (⟨b.toArray⟩ : BS)) ∘ fun a : BS × Int => a.1.data.toList) = Prod.fst := by
    funext a
    obtain ⟨⟨⟨l⟩⟩, v⟩ := a
    rfl
  rw [e] at h
  exact h
theorem KK_nd {A : AT} (h : (A.map Prod.fst).Nodup) : (KK A).Nodup := (KK_perm A).nodup_iff.2 h
theorem KK_len (A : AT) : (KK A).length = A.length := by rw [(KK_perm A).length_eq, List.length_map]
theorem KK_lt {A : AT} (hn : (A.map Prod.fst).Nodup) {j : Nat} (h : j + 1 < (KK A).length) : Op.bytesLess ((KK A)[j]'(by omega)).data.toList ((KK A)[j + 1]'h).data.toList = true := by
  have hs := sortS_sorted (le := fun x y : List UInt8 => decide (x ≤ y)) (fun a b c h1 h2 => by simp only [decide_eq_true_eq] at *; exact List.le_trans h1 h2) (fun a b => by simp only [Bool.or_eq_true, decide_eq_true_eq]; exact List.le_total a b) (A.map fun a => a.1.data.toList)
  have hl : (KK A).length = (sortS (fun x y : List UInt8 => decide (x ≤ y)) (A.map fun a => a.1.data.toList)).length := List.length_map ..
  have h1 := of_decide_eq_true (List.pairwise_iff_getElem.1 hs j (j + 1) (by omega) (by omega) (by omega))
  have h2 := List.pairwise_iff_getElem.1 (KK_nd hn) j (j + 1) (by omega) h (by omega)
  have e : ∀ (k : Nat) (hk : k < (KK A).length), ((KK A)[k]'hk).data.toList = (sortS (fun x y : List UInt8 => decide (x ≤ y)) (A.map fun a => a.1.data.toList))[k]'(by omega) := fun k hk => congrArg (fun b : BS => b.data.toList) (List.getElem_map (fun b : List UInt8 => (⟨b.toArray⟩ : BS)))
  rw [← e j (by omega), ← e (j + 1) h] at h1
  cases hb : Op.bytesLess ((KK A)[j]'(by omega)).data.toList ((KK A)[j + 1]'h).data.toList with
  | true => rfl
  | false =>
    exfalso
    rcases less_total hb with h3 | h3
    · rw [bytesLess_eq] at h3
      exact absurd (of_decide_eq_true h3) (List.not_lt.2 h1)
    · exact h2 (bsT_ext h3)
def psT (f : BS → Int) : List BS → Int
  | [] => 0
  | k :: r => f k + psT f r
theorem ps_perm {f : BS → Int} {a b : List BS} (h : a.Perm b) : psT f a = psT f b := by
  induction h with
  | nil => rfl
  | cons x _ ih => show f x + _ = f x + _; rw [ih]
  | swap x y l => show f y + (f x + _) = f x + (f y + _); omega
  | trans _ _ h1 h2 => rw [h1, h2]
theorem ps_app (f : BS → Int) (x : BS) : ∀ l : List BS, psT f (l ++ [x]) = psT f l + f x
  | [] => by show f x + 0 = 0 + f x; omega
  | a :: r => by
    show f a + psT f (r ++ [x]) = f a + psT f r + f x
    rw [ps_app f x r]; omega
theorem ps_next (f : BS → Int) {l : List BS} {j : Nat} (h : j < l.length) : psT f (l.take (j + 1)) = psT f (l.take j) + f (l[j]) := by
  rw [← List.take_append_getElem h, ps_app]
theorem ps_le {f : BS → Int} (h : ∀ k, 0 ≤ f k) : ∀ (l : List BS) (j : Nat), 0 ≤ psT f (l.take j) ∧ psT f (l.take j) ≤ psT f l
  | [], j => by rw [List.take_nil]; exact ⟨Int.le_refl _, Int.le_refl _⟩
  | a :: r, 0 => by
    have := ps_le h r r.length
    rw [List.take_length] at this
    have := h a
    show 0 ≤ (0 : Int) ∧ (0 : Int) ≤ f a + psT f r
    omega
  | a :: r, j + 1 => by
    have := ps_le h r j
    have := h a
    show 0 ≤ f a + psT f (r.take j) ∧ f a + psT f (r.take j) ≤ f a + psT f r
    omega
theorem tot_ps {A : AT} (hn : (A.map Prod.fst).Nodup) : psT (getT A) (KK A) = totT A := by
  rw [ps_perm (KK_perm A)]
  have : ∀ B : AT, (∀ x ∈ B, getT A x.1 = x.2) → psT (getT A) (B.map Prod.fst) = totT B := by
    intro B
    induction B with
    | nil => intro _; rfl
    | cons b r ih =>
      intro h
      show getT A b.1 + psT (getT A) (r.map Prod.fst) = b.2 + totT r
      rw [ih fun x hx => h x (List.mem_cons_of_mem _ hx), h b List.mem_cons_self]
  exact this A (get_mem hn)
def nmA : BS := ByteArray.mk (Array.mk [(97 : UInt8)])
def nmB : BS := ByteArray.mk (Array.mk [(98 : UInt8)])
def nmC : BS := ByteArray.mk (Array.mk [(99 : UInt8)])
def nms : List BS := [nmA, nmB, nmC]
/-- What a ledger keeps. -/
structure RK (A : AT) (s p a : Int) (es : Ents) : Prop where
  es_ : es = imgT A
  nd : (A.map Prod.fst).Nodup
  ks : ∀ x ∈ A, x.1 ∈ nms
  vs : ∀ x ∈ A, 1 ≤ x.2
  tot : totT A = a
  s0 : 0 ≤ s
  p0 : 0 ≤ p
  sp : s + p ≤ 1073741824
  a1 : a ≤ 1073741824
theorem RK.len {A : AT} {s p a : Int} {es : Ents} (R : RK A s p a es) : A.length ≤ 3 := by
  have := List.Nodup.length_le_of_subset R.nd (l₂ := nms) fun x hx => by
    obtain ⟨y, hy, rfl⟩ := List.mem_map.1 hx
    exact R.ks y hy
  rw [List.length_map] at this
  exact this
theorem RK.a0 {A : AT} {s p a : Int} {es : Ents} (R : RK A s p a es) : 0 ≤ a := by
  have h := get_le nmA R.vs
  rw [R.tot] at h
  omega
theorem RK.has {A : AT} {s p a : Int} {es : Ents} (R : RK A s p a es) (u : BS) : 0 ≤ hasR es u ∧ hasR es u ≤ a := by
  have h := get_le u R.vs
  rw [R.es_, has_img, ← R.tot]
  exact h
theorem RK.okM {A : AT} {s p a : Int} {es : Ents} (R : RK A s p a es) (u : BS) (n : Int) : okMF u n s p a es := by
  have h1 := R.s0
  have h2 := R.p0
  have h3 := R.sp
  have h4 := R.a0
  have h5 := R.a1
  have h6 := R.has u
  refine ⟨by omega, by omega, by omega, h3, h6, ?_⟩
  rw [R.es_]
  unfold imgT
  rw [List.length_map]
  have := R.len
  omega
theorem RK.okS {A : AT} {s p a : Int} {es : Ents} (R : RK A s p a es) : okTR es := by
  refine ⟨?_, fun e he => ?_⟩
  · rw [R.es_]
    unfold imgT
    rw [List.length_map]
    have := R.len
    omega
  · rw [R.es_] at he
    obtain ⟨x, hx, rfl⟩ := List.mem_map.1 he
    have := R.ks x hx
    show x.1.data.toList.length ≤ 100000
    unfold nms at this
    simp only [List.mem_cons, List.not_mem_nil, or_false] at this
    rcases this with h | h | h <;> rw [h] <;> decide
theorem RK.put {A : AT} {s p a p' a' : Int} {es : Ents} (R : RK A s p a es) {u : BS} (hu : u ∈ nms) {v : Int} (hv : 1 ≤ v) (hp : 0 ≤ p' ∧ s + p' ≤ 1073741824) (ha : a' = a - hasR es u + v ∧ a' ≤ 1073741824) : RK (putT A u v) s p' a' (setR es u v) := by
  obtain ⟨m1, m2⟩ := put_mem (u := u) (v := v) R.nd
  refine ⟨by rw [R.es_, set_img], m1, fun x hx => ?_, fun x hx => ?_, ?_, R.s0, hp.1, hp.2, ha.2⟩
  · rcases m2 x hx with rfl | ⟨h, _⟩
    · exact hu
    · exact R.ks x h
  · rcases m2 x hx with rfl | ⟨h, _⟩
    · exact hv
    · exact R.vs x h
  · rw [tot_put, R.tot, ha.1, R.es_, has_img]
theorem RK.del {A : AT} {s p a p' a' : Int} {es : Ents} (R : RK A s p a es) {u : BS} (v : Int) (hp : 0 ≤ p' ∧ s + p' ≤ 1073741824) (ha : a' = a - hasR es u) : RK (delT A u) s p' a' (mdel zS (setR es u v) (kT u)) := by
  obtain ⟨m1, m2⟩ := del_mem (u := u) R.nd
  have h := R.has u
  have h2 := R.a1
  refine ⟨by rw [R.es_, set_img, del_img, del_put], m1, fun x hx => R.ks x (m2 x hx), fun x hx => R.vs x (m2 x hx), ?_, R.s0, hp.1, hp.2, by omega⟩
  rw [tot_del, R.tot, ha, R.es_, has_img]
theorem RK.other {A : AT} {s p a s' p' : Int} {es : Ents} (R : RK A s p a es) (hs : 0 ≤ s') (hp : 0 ≤ p' ∧ s' + p' ≤ 1073741824) : RK A s' p' a es :=
  ⟨R.es_, R.nd, R.ks, R.vs, R.tot, hs, hp.1, hp.2, R.a1⟩
theorem RK.mint {A : AT} {s p a : Int} {es : Ents} (R : RK A s p a es) {u : BS} {n : Int} (h : Bool) (hu : badR u n ∨ u ∈ nms) :
    ∃ A', RK A' s (mintF u n s p a h es).p (mintF u n s p a h es).a (mintF u n s p a h es).m := by
  have h1 := R.s0
  have h2 := R.p0
  have h6 := R.has u
  unfold mintF
  split
  · exact ⟨A, R⟩
  split
  · exact ⟨A, R⟩
  split
  · exact ⟨A, R⟩
  split
  · exact ⟨A, R⟩
  rename_i hb _ _ hq
  rcases hu with hu | hu
  · exact absurd hu hb
  unfold badR at hb
  have R2 := R.put (p' := p + n) (a' := a + qR n s p a) hu (v := hasR es u + qR n s p a) (by omega) (by omega) (by omega)
  exact ⟨_, R2⟩
theorem RK.red {A : AT} {s p a : Int} {es : Ents} (R : RK A s p a es) {u : BS} {n : Int} (h : Bool) (hu : badR u n ∨ u ∈ nms) :
    ∃ A', RK A' s (redF u n s p a h es).p (redF u n s p a h es).a (redF u n s p a h es).m := by
  have h1 := R.s0
  have h2 := R.p0
  have h3 := R.sp
  have h5 := R.a1
  have h6 := R.has u
  unfold redF
  split
  · exact ⟨A, R⟩
  split
  · exact ⟨A, R⟩
  split
  · exact ⟨A, R⟩
  split
  · exact ⟨A, R⟩
  split
  · exact ⟨A, R⟩
  rename_i hb _ h0 hn hw
  rcases hu with hu | hu
  · exact absurd hu hb
  unfold badR at hb
  have hna := mul_rng (x := n) (y := s + p) (by omega) (by omega)
  have hq := quo_rng hna (y := a) (by omega)
  by_cases e : n = hasR es u
  · have R2 := R.del (p' := p - std.quo (n * (s + p)) a) (a' := a - n) (u := u) (hasR es u - n) (by omega) (by omega)
    exact ⟨delT A u, by
      show RK (delT A u) s (p - std.quo (n * (s + p)) a) (a - n) (if n = hasR es u then _ else _)
      rw [if_pos e]
      exact R2⟩
  · have R2 := R.put (p' := p - std.quo (n * (s + p)) a) (a' := a - n) hu (v := hasR es u - n) (by omega) (by omega) (by omega)
    exact ⟨putT A u (hasR es u - n), by
      show RK _ s (p - std.quo (n * (s + p)) a) (a - n) (if n = hasR es u then _ else _)
      rw [if_neg e]
      exact R2⟩
/-- The rate doesn't fall. -/
theorem ri_le {x y v w : Int} (hx : 0 ≤ x ∧ x ≤ 1073741824) (hy : 0 ≤ y ∧ y ≤ 1073741824) (hv : 0 ≤ v ∧ v ≤ 1073741824) (hw : 0 ≤ w ∧ w ≤ 1073741824) (h : x * w ≤ v * y) : rtF.ri (std.fof x) (std.fof y) (std.fof v) (std.fof w) = true := by
  show decide (std.fint (std.fof x) * std.fint (std.fof w) ≤ std.fint (std.fof v) * std.fint (std.fof y)) = true
  rw [fint_fof (n := x) (by omega), fint_fof (n := y) (by omega), fint_fof (n := v) (by omega), fint_fof (n := w) (by omega)]
  exact decide_eq_true h
theorem quo_mul {x y : Int} (hx : 0 ≤ x) (_hy : 0 ≤ y) : y * std.quo x y ≤ x := by
  show y * Int.tdiv x y ≤ x
  by_cases e : y = 0
  · rw [e, Int.zero_mul]; exact hx
  · rw [Int.tdiv_eq_ediv_of_nonneg hx]
    exact Int.mul_ediv_self_le e
theorem mint_rate {u : BS} {n s p a : Int} {h : Bool} {es : Ents} (h0 : 0 < a) (hs : 0 ≤ s) (hp : 0 ≤ p) : (s + p) * (mintF u n s p a h es).a ≤ (s + (mintF u n s p a h es).p) * a := by
  unfold mintF
  split
  · exact Int.le_refl _
  split
  · exact Int.le_refl _
  split
  · exact Int.le_refl _
  split
  · exact Int.le_refl _
  rename_i hb _ _ _
  unfold badR at hb
  unfold qR
  rw [if_pos h0]
  have h1 := quo_mul (x := n * a) (y := s + p) (Int.mul_nonneg (by omega) (by omega)) (by omega)
  show (s + p) * (a + std.quo (n * a) (s + p)) ≤ (s + (p + n)) * a
  rw [Int.mul_add, ← Int.add_assoc, Int.add_mul (s + p) n a]
  omega
theorem red_rate {u : BS} {n s p a : Int} {h : Bool} {es : Ents} (ha : 0 ≤ a) (hs : 0 ≤ s) (hp : 0 ≤ p) : (s + p) * (redF u n s p a h es).a ≤ (s + (redF u n s p a h es).p) * a := by
  unfold redF
  split
  · exact Int.le_refl _
  split
  · exact Int.le_refl _
  split
  · exact Int.le_refl _
  split
  · exact Int.le_refl _
  split
  · exact Int.le_refl _
  rename_i hb _ _ _ _
  unfold badR at hb
  have h1 := quo_mul (x := n * (s + p)) (y := a) (Int.mul_nonneg (by omega) (by omega)) ha
  show (s + p) * (a - n) ≤ (s + (p - std.quo (n * (s + p)) a)) * a
  have e1 : (s + (p - std.quo (n * (s + p)) a)) * a = (s + p) * a - a * std.quo (n * (s + p)) a := by
    rw [show s + (p - std.quo (n * (s + p)) a) = (s + p) - std.quo (n * (s + p)) a by omega, Int.sub_mul, Int.mul_comm (std.quo (n * (s + p)) a) a]
  have e2 : (s + p) * (a - n) = (s + p) * a - n * (s + p) := by rw [Int.mul_sub, Int.mul_comm (s + p) n]
  rw [e1, e2]
  omega
end Go.Proofs.Ytddejgkfgnokgaa
end
section
namespace Go.Proofs.Ytddejgkfgnokgaa
open Go.RowKit Go.Abs Go
noncomputable section
/-- Same of texts; f what it comes to. -/
def ssP (S : Sy) (f : List Value → List Value → Bool) : PF := pf (.cons cSs (.cons cSs .nil)) (fun d => S.nle (S.len d.1) LIM) [.bool false] fun d => [mkb (f d.1 d.2.1)]
end
end Go.Proofs.Ytddejgkfgnokgaa
end
section
namespace Go.Proofs.Ytddejgkfgnokgaa
open Go.RowKit Go.Abs Go
noncomputable section
def rrunCon (S : Sy) (u : RtF) (f : List Value → List Value → Bool) : Con := conL [(10, ocon (mintO u)), (13, ocon (redO u)), (11, ocon (backO S u)), (12, ocon (plO S)), (15, ocon (usersO u)), (14, pcon (ssP S f))]
def runsP : PF := pf .nil (fun _ => True) [.bool false] fun _ => [.bool true]
end
end Go.Proofs.Ytddejgkfgnokgaa
end
section
namespace Go.Proofs.Ytddejgkfgnokgaa
open Go.Abs Go
set_option maxRecDepth 100000 in
theorem rrun_vc (u : RtF) (f : List Value → List Value → Bool) : runP std (rrunCon std u f) 90 noL runsP 3 Try.f3 () =
  ((u.okM (ByteArray.mk (Array.mk [(97 : UInt8)])) (10 : Int) (0 : Int) (0 : Int) (0 : Int) []) ∧ ((((0 : Int) ≤ (u.mP (ByteArray.mk (Array.mk [(97 : UInt8)])) (10 : Int) (0 : Int) (0 : Int) (0 : Int) false [])) ∧ ((u.mP (ByteArray.mk (Array.mk [(97 : UInt8)])) (10 : Int) (0 : Int) (0 : Int) (0 : Int) false []) ≤ (1073741824 : Int))) ∧ (((((0 : Int) ≤ (u.bS (10 : Int) (0 : Int) (u.mP (ByteArray.mk (Array.mk [(97 : UInt8)])) (10 : Int) (0 : Int) (0 : Int) (0 : Int) false []))) ∧ ((u.bS (10 : Int) (0 : Int) (u.mP (ByteArray.mk (Array.mk [(97 : UInt8)])) (10 : Int) (0 : Int) (0 : Int) (0 : Int) false [])) ≤ (1073741824 : Int))) ∧ ((((0 : Int) ≤ (u.mP (ByteArray.mk (Array.mk [(97 : UInt8)])) (10 : Int) (0 : Int) (0 : Int) (0 : Int) false [])) ∧ ((u.mP (ByteArray.mk (Array.mk [(97 : UInt8)])) (10 : Int) (0 : Int) (0 : Int) (0 : Int) false []) ≤ (1073741824 : Int))) ∧ ((((0 : Int) ≤ (u.mA (ByteArray.mk (Array.mk [(97 : UInt8)])) (10 : Int) (0 : Int) (0 : Int) (0 : Int) false [])) ∧ ((u.mA (ByteArray.mk (Array.mk [(97 : UInt8)])) (10 : Int) (0 : Int) (0 : Int) (0 : Int) false []) ≤ (1073741824 : Int))) ∧ (((u.bS (10 : Int) (0 : Int) (u.mP (ByteArray.mk (Array.mk [(97 : UInt8)])) (10 : Int) (0 : Int) (0 : Int) (0 : Int) false [])) + (u.mP (ByteArray.mk (Array.mk [(97 : UInt8)])) (10 : Int) (0 : Int) (0 : Int) (0 : Int) false [])) ≤ (1073741824 : Int))))) ∧ ((u.okM (ByteArray.mk (Array.mk [(98 : UInt8)])) (5 : Int) (u.bS (10 : Int) (0 : Int) (u.mP (ByteArray.mk (Array.mk [(97 : UInt8)])) (10 : Int) (0 : Int) (0 : Int) (0 : Int) false [])) (u.mP (ByteArray.mk (Array.mk [(97 : UInt8)])) (10 : Int) (0 : Int) (0 : Int) (0 : Int) false []) (u.mA (ByteArray.mk (Array.mk [(97 : UInt8)])) (10 : Int) (0 : Int) (0 : Int) (0 : Int) false []) (u.mM (ByteArray.mk (Array.mk [(97 : UInt8)])) (10 : Int) (0 : Int) (0 : Int) (0 : Int) false [])) ∧ ((u.okM (ByteArray.mk (Array.mk [(97 : UInt8)])) (1 : Int) (u.bS (10 : Int) (0 : Int) (u.mP (ByteArray.mk (Array.mk [(97 : UInt8)])) (10 : Int) (0 : Int) (0 : Int) (0 : Int) false [])) (u.mP (ByteArray.mk (Array.mk [(98 : UInt8)])) (5 : Int) (u.bS (10 : Int) (0 : Int) (u.mP (ByteArray.mk (Array.mk [(97 : UInt8)])) (10 : Int) (0 : Int) (0 : Int) (0 : Int) false [])) (u.mP (ByteArray.mk (Array.mk [(97 : UInt8)])) (10 : Int) (0 : Int) (0 : Int) (0 : Int) false []) (u.mA (ByteArray.mk (Array.mk [(97 : UInt8)])) (10 : Int) (0 : Int) (0 : Int) (0 : Int) false []) (u.bH (10 : Int) (u.mP (ByteArray.mk (Array.mk [(97 : UInt8)])) (10 : Int) (0 : Int) (0 : Int) (0 : Int) false []) false) (u.mM (ByteArray.mk (Array.mk [(97 : UInt8)])) (10 : Int) (0 : Int) (0 : Int) (0 : Int) false [])) (u.mA (ByteArray.mk (Array.mk [(98 : UInt8)])) (5 : Int) (u.bS (10 : Int) (0 : Int) (u.mP (ByteArray.mk (Array.mk [(97 : UInt8)])) (10 : Int) (0 : Int) (0 : Int) (0 : Int) false [])) (u.mP (ByteArray.mk (Array.mk [(97 : UInt8)])) (10 : Int) (0 : Int) (0 : Int) (0 : Int) false []) (u.mA (ByteArray.mk (Array.mk [(97 : UInt8)])) (10 : Int) (0 : Int) (0 : Int) (0 : Int) false []) (u.bH (10 : Int) (u.mP (ByteArray.mk (Array.mk [(97 : UInt8)])) (10 : Int) (0 : Int) (0 : Int) (0 : Int) false []) false) (u.mM (ByteArray.mk (Array.mk [(97 : UInt8)])) (10 : Int) (0 : Int) (0 : Int) (0 : Int) false [])) (u.mM (ByteArray.mk (Array.mk [(98 : UInt8)])) (5 : Int) (u.bS (10 : Int) (0 : Int) (u.mP (ByteArray.mk (Array.mk [(97 : UInt8)])) (10 : Int) (0 : Int) (0 : Int) (0 : Int) false [])) (u.mP (ByteArray.mk (Array.mk [(97 : UInt8)])) (10 : Int) (0 : Int) (0 : Int) (0 : Int) false []) (u.mA (ByteArray.mk (Array.mk [(97 : UInt8)])) (10 : Int) (0 : Int) (0 : Int) (0 : Int) false []) (u.bH (10 : Int) (u.mP (ByteArray.mk (Array.mk [(97 : UInt8)])) (10 : Int) (0 : Int) (0 : Int) (0 : Int) false []) false) (u.mM (ByteArray.mk (Array.mk [(97 : UInt8)])) (10 : Int) (0 : Int) (0 : Int) (0 : Int) false []))) ∧ (((((u.mN (ByteArray.mk (Array.mk [(97 : UInt8)])) (10 : Int) (0 : Int) (0 : Int) (0 : Int) false []) == (10 : Int)) = true) → (((((u.mE (ByteArray.mk (Array.mk [(97 : UInt8)])) (10 : Int) (0 : Int) (0 : Int) (0 : Int) false []) == (0 : Int)) = true) → (((((u.bE (10 : Int) (u.mP (ByteArray.mk (Array.mk [(97 : UInt8)])) (10 : Int) (0 : Int) (0 : Int) (0 : Int) false [])) == (0 : Int)) = true) → (((((std.feq (std.fof ((u.bS (10 : Int) (0 : Int) (u.mP (ByteArray.mk (Array.mk [(97 : UInt8)])) (10 : Int) (0 : Int) (0 : Int) (0 : Int) false [])) + (u.mP (ByteArray.mk (Array.mk [(97 : UInt8)])) (10 : Int) (0 : Int) (0 : Int) (0 : Int) false []))) 4626322717216342016) && (std.feq (std.fof (u.mA (ByteArray.mk (Array.mk [(97 : UInt8)])) (10 : Int) (0 : Int) (0 : Int) (0 : Int) false [])) 4621819117588971520)) = true) → (((((u.mN (ByteArray.mk (Array.mk [(98 : UInt8)])) (5 : Int) (u.bS (10 : Int) (0 : Int) (u.mP (ByteArray.mk (Array.mk [(97 : UInt8)])) (10 : Int) (0 : Int) (0 : Int) (0 : Int) false [])) (u.mP (ByteArray.mk (Array.mk [(97 : UInt8)])) (10 : Int) (0 : Int) (0 : Int) (0 : Int) false []) (u.mA (ByteArray.mk (Array.mk [(97 : UInt8)])) (10 : Int) (0 : Int) (0 : Int) (0 : Int) false []) (u.bH (10 : Int) (u.mP (ByteArray.mk (Array.mk [(97 : UInt8)])) (10 : Int) (0 : Int) (0 : Int) (0 : Int) false []) false) (u.mM (ByteArray.mk (Array.mk [(97 : UInt8)])) (10 : Int) (0 : Int) (0 : Int) (0 : Int) false [])) == (2 : Int)) = true) → (((((u.mE (ByteArray.mk (Array.mk [(98 : UInt8)])) (5 : Int) (u.bS (10 : Int) (0 : Int) (u.mP (ByteArray.mk (Array.mk [(97 : UInt8)])) (10 : Int) (0 : Int) (0 : Int) (0 : Int) false [])) (u.mP (ByteArray.mk (Array.mk [(97 : UInt8)])) (10 : Int) (0 : Int) (0 : Int) (0 : Int) false []) (u.mA (ByteArray.mk (Array.mk [(97 : UInt8)])) (10 : Int) (0 : Int) (0 : Int) (0 : Int) false []) (u.bH (10 : Int) (u.mP (ByteArray.mk (Array.mk [(97 : UInt8)])) (10 : Int) (0 : Int) (0 : Int) (0 : Int) false []) false) (u.mM (ByteArray.mk (Array.mk [(97 : UInt8)])) (10 : Int) (0 : Int) (0 : Int) (0 : Int) false [])) == (0 : Int)) = true) → (((((u.rN (ByteArray.mk (Array.mk [(97 : UInt8)])) (1 : Int) (u.bS (10 : Int) (0 : Int) (u.mP (ByteArray.mk (Array.mk [(97 : UInt8)])) (10 : Int) (0 : Int) (0 : Int) (0 : Int) false [])) (u.mP (ByteArray.mk (Array.mk [(98 : UInt8)])) (5 : Int) (u.bS (10 : Int) (0 : Int) (u.mP (ByteArray.mk (Array.mk [(97 : UInt8)])) (10 : Int) (0 : Int) (0 : Int) (0 : Int) false [])) (u.mP (ByteArray.mk (Array.mk [(97 : UInt8)])) (10 : Int) (0 : Int) (0 : Int) (0 : Int) false []) (u.mA (ByteArray.mk (Array.mk [(97 : UInt8)])) (10 : Int) (0 : Int) (0 : Int) (0 : Int) false []) (u.bH (10 : Int) (u.mP (ByteArray.mk (Array.mk [(97 : UInt8)])) (10 : Int) (0 : Int) (0 : Int) (0 : Int) false []) false) (u.mM (ByteArray.mk (Array.mk [(97 : UInt8)])) (10 : Int) (0 : Int) (0 : Int) (0 : Int) false [])) (u.mA (ByteArray.mk (Array.mk [(98 : UInt8)])) (5 : Int) (u.bS (10 : Int) (0 : Int) (u.mP (ByteArray.mk (Array.mk [(97 : UInt8)])) (10 : Int) (0 : Int) (0 : Int) (0 : Int) false [])) (u.mP (ByteArray.mk (Array.mk [(97 : UInt8)])) (10 : Int) (0 : Int) (0 : Int) (0 : Int) false []) (u.mA (ByteArray.mk (Array.mk [(97 : UInt8)])) (10 : Int) (0 : Int) (0 : Int) (0 : Int) false []) (u.bH (10 : Int) (u.mP (ByteArray.mk (Array.mk [(97 : UInt8)])) (10 : Int) (0 : Int) (0 : Int) (0 : Int) false []) false) (u.mM (ByteArray.mk (Array.mk [(97 : UInt8)])) (10 : Int) (0 : Int) (0 : Int) (0 : Int) false [])) (u.bH (10 : Int) (u.mP (ByteArray.mk (Array.mk [(97 : UInt8)])) (10 : Int) (0 : Int) (0 : Int) (0 : Int) false []) false) (u.mM (ByteArray.mk (Array.mk [(98 : UInt8)])) (5 : Int) (u.bS (10 : Int) (0 : Int) (u.mP (ByteArray.mk (Array.mk [(97 : UInt8)])) (10 : Int) (0 : Int) (0 : Int) (0 : Int) false [])) (u.mP (ByteArray.mk (Array.mk [(97 : UInt8)])) (10 : Int) (0 : Int) (0 : Int) (0 : Int) false []) (u.mA (ByteArray.mk (Array.mk [(97 : UInt8)])) (10 : Int) (0 : Int) (0 : Int) (0 : Int) false []) (u.bH (10 : Int) (u.mP (ByteArray.mk (Array.mk [(97 : UInt8)])) (10 : Int) (0 : Int) (0 : Int) (0 : Int) false []) false) (u.mM (ByteArray.mk (Array.mk [(97 : UInt8)])) (10 : Int) (0 : Int) (0 : Int) (0 : Int) false []))) == (2 : Int)) = true) → (((((u.rE (ByteArray.mk (Array.mk [(97 : UInt8)])) (1 : Int) (u.bS (10 : Int) (0 : Int) (u.mP (ByteArray.mk (Array.mk [(97 : UInt8)])) (10 : Int) (0 : Int) (0 : Int) (0 : Int) false [])) (u.mP (ByteArray.mk (Array.mk [(98 : UInt8)])) (5 : Int) (u.bS (10 : Int) (0 : Int) (u.mP (ByteArray.mk (Array.mk [(97 : UInt8)])) (10 : Int) (0 : Int) (0 : Int) (0 : Int) false [])) (u.mP (ByteArray.mk (Array.mk [(97 : UInt8)])) (10 : Int) (0 : Int) (0 : Int) (0 : Int) false []) (u.mA (ByteArray.mk (Array.mk [(97 : UInt8)])) (10 : Int) (0 : Int) (0 : Int) (0 : Int) false []) (u.bH (10 : Int) (u.mP (ByteArray.mk (Array.mk [(97 : UInt8)])) (10 : Int) (0 : Int) (0 : Int) (0 : Int) false []) false) (u.mM (ByteArray.mk (Array.mk [(97 : UInt8)])) (10 : Int) (0 : Int) (0 : Int) (0 : Int) false [])) (u.mA (ByteArray.mk (Array.mk [(98 : UInt8)])) (5 : Int) (u.bS (10 : Int) (0 : Int) (u.mP (ByteArray.mk (Array.mk [(97 : UInt8)])) (10 : Int) (0 : Int) (0 : Int) (0 : Int) false [])) (u.mP (ByteArray.mk (Array.mk [(97 : UInt8)])) (10 : Int) (0 : Int) (0 : Int) (0 : Int) false []) (u.mA (ByteArray.mk (Array.mk [(97 : UInt8)])) (10 : Int) (0 : Int) (0 : Int) (0 : Int) false []) (u.bH (10 : Int) (u.mP (ByteArray.mk (Array.mk [(97 : UInt8)])) (10 : Int) (0 : Int) (0 : Int) (0 : Int) false []) false) (u.mM (ByteArray.mk (Array.mk [(97 : UInt8)])) (10 : Int) (0 : Int) (0 : Int) (0 : Int) false [])) (u.bH (10 : Int) (u.mP (ByteArray.mk (Array.mk [(97 : UInt8)])) (10 : Int) (0 : Int) (0 : Int) (0 : Int) false []) false) (u.mM (ByteArray.mk (Array.mk [(98 : UInt8)])) (5 : Int) (u.bS (10 : Int) (0 : Int) (u.mP (ByteArray.mk (Array.mk [(97 : UInt8)])) (10 : Int) (0 : Int) (0 : Int) (0 : Int) false [])) (u.mP (ByteArray.mk (Array.mk [(97 : UInt8)])) (10 : Int) (0 : Int) (0 : Int) (0 : Int) false []) (u.mA (ByteArray.mk (Array.mk [(97 : UInt8)])) (10 : Int) (0 : Int) (0 : Int) (0 : Int) false []) (u.bH (10 : Int) (u.mP (ByteArray.mk (Array.mk [(97 : UInt8)])) (10 : Int) (0 : Int) (0 : Int) (0 : Int) false []) false) (u.mM (ByteArray.mk (Array.mk [(97 : UInt8)])) (10 : Int) (0 : Int) (0 : Int) (0 : Int) false []))) == (0 : Int)) = true) → ((u.okS (u.rM (ByteArray.mk (Array.mk [(97 : UInt8)])) (1 : Int) (u.bS (10 : Int) (0 : Int) (u.mP (ByteArray.mk (Array.mk [(97 : UInt8)])) (10 : Int) (0 : Int) (0 : Int) (0 : Int) false [])) (u.mP (ByteArray.mk (Array.mk [(98 : UInt8)])) (5 : Int) (u.bS (10 : Int) (0 : Int) (u.mP (ByteArray.mk (Array.mk [(97 : UInt8)])) (10 : Int) (0 : Int) (0 : Int) (0 : Int) false [])) (u.mP (ByteArray.mk (Array.mk [(97 : UInt8)])) (10 : Int) (0 : Int) (0 : Int) (0 : Int) false []) (u.mA (ByteArray.mk (Array.mk [(97 : UInt8)])) (10 : Int) (0 : Int) (0 : Int) (0 : Int) false []) (u.bH (10 : Int) (u.mP (ByteArray.mk (Array.mk [(97 : UInt8)])) (10 : Int) (0 : Int) (0 : Int) (0 : Int) false []) false) (u.mM (ByteArray.mk (Array.mk [(97 : UInt8)])) (10 : Int) (0 : Int) (0 : Int) (0 : Int) false [])) (u.mA (ByteArray.mk (Array.mk [(98 : UInt8)])) (5 : Int) (u.bS (10 : Int) (0 : Int) (u.mP (ByteArray.mk (Array.mk [(97 : UInt8)])) (10 : Int) (0 : Int) (0 : Int) (0 : Int) false [])) (u.mP (ByteArray.mk (Array.mk [(97 : UInt8)])) (10 : Int) (0 : Int) (0 : Int) (0 : Int) false []) (u.mA (ByteArray.mk (Array.mk [(97 : UInt8)])) (10 : Int) (0 : Int) (0 : Int) (0 : Int) false []) (u.bH (10 : Int) (u.mP (ByteArray.mk (Array.mk [(97 : UInt8)])) (10 : Int) (0 : Int) (0 : Int) (0 : Int) false []) false) (u.mM (ByteArray.mk (Array.mk [(97 : UInt8)])) (10 : Int) (0 : Int) (0 : Int) (0 : Int) false [])) (u.bH (10 : Int) (u.mP (ByteArray.mk (Array.mk [(97 : UInt8)])) (10 : Int) (0 : Int) (0 : Int) (0 : Int) false []) false) (u.mM (ByteArray.mk (Array.mk [(98 : UInt8)])) (5 : Int) (u.bS (10 : Int) (0 : Int) (u.mP (ByteArray.mk (Array.mk [(97 : UInt8)])) (10 : Int) (0 : Int) (0 : Int) (0 : Int) false [])) (u.mP (ByteArray.mk (Array.mk [(97 : UInt8)])) (10 : Int) (0 : Int) (0 : Int) (0 : Int) false []) (u.mA (ByteArray.mk (Array.mk [(97 : UInt8)])) (10 : Int) (0 : Int) (0 : Int) (0 : Int) false []) (u.bH (10 : Int) (u.mP (ByteArray.mk (Array.mk [(97 : UInt8)])) (10 : Int) (0 : Int) (0 : Int) (0 : Int) false []) false) (u.mM (ByteArray.mk (Array.mk [(97 : UInt8)])) (10 : Int) (0 : Int) (0 : Int) (0 : Int) false [])))) ∧ (((List.length (u.srt (u.rM (ByteArray.mk (Array.mk [(97 : UInt8)])) (1 : Int) (u.bS (10 : Int) (0 : Int) (u.mP (ByteArray.mk (Array.mk [(97 : UInt8)])) (10 : Int) (0 : Int) (0 : Int) (0 : Int) false [])) (u.mP (ByteArray.mk (Array.mk [(98 : UInt8)])) (5 : Int) (u.bS (10 : Int) (0 : Int) (u.mP (ByteArray.mk (Array.mk [(97 : UInt8)])) (10 : Int) (0 : Int) (0 : Int) (0 : Int) false [])) (u.mP (ByteArray.mk (Array.mk [(97 : UInt8)])) (10 : Int) (0 : Int) (0 : Int) (0 : Int) false []) (u.mA (ByteArray.mk (Array.mk [(97 : UInt8)])) (10 : Int) (0 : Int) (0 : Int) (0 : Int) false []) (u.bH (10 : Int) (u.mP (ByteArray.mk (Array.mk [(97 : UInt8)])) (10 : Int) (0 : Int) (0 : Int) (0 : Int) false []) false) (u.mM (ByteArray.mk (Array.mk [(97 : UInt8)])) (10 : Int) (0 : Int) (0 : Int) (0 : Int) false [])) (u.mA (ByteArray.mk (Array.mk [(98 : UInt8)])) (5 : Int) (u.bS (10 : Int) (0 : Int) (u.mP (ByteArray.mk (Array.mk [(97 : UInt8)])) (10 : Int) (0 : Int) (0 : Int) (0 : Int) false [])) (u.mP (ByteArray.mk (Array.mk [(97 : UInt8)])) (10 : Int) (0 : Int) (0 : Int) (0 : Int) false []) (u.mA (ByteArray.mk (Array.mk [(97 : UInt8)])) (10 : Int) (0 : Int) (0 : Int) (0 : Int) false []) (u.bH (10 : Int) (u.mP (ByteArray.mk (Array.mk [(97 : UInt8)])) (10 : Int) (0 : Int) (0 : Int) (0 : Int) false []) false) (u.mM (ByteArray.mk (Array.mk [(97 : UInt8)])) (10 : Int) (0 : Int) (0 : Int) (0 : Int) false [])) (u.bH (10 : Int) (u.mP (ByteArray.mk (Array.mk [(97 : UInt8)])) (10 : Int) (0 : Int) (0 : Int) (0 : Int) false []) false) (u.mM (ByteArray.mk (Array.mk [(98 : UInt8)])) (5 : Int) (u.bS (10 : Int) (0 : Int) (u.mP (ByteArray.mk (Array.mk [(97 : UInt8)])) (10 : Int) (0 : Int) (0 : Int) (0 : Int) false [])) (u.mP (ByteArray.mk (Array.mk [(97 : UInt8)])) (10 : Int) (0 : Int) (0 : Int) (0 : Int) false []) (u.mA (ByteArray.mk (Array.mk [(97 : UInt8)])) (10 : Int) (0 : Int) (0 : Int) (0 : Int) false []) (u.bH (10 : Int) (u.mP (ByteArray.mk (Array.mk [(97 : UInt8)])) (10 : Int) (0 : Int) (0 : Int) (0 : Int) false []) false) (u.mM (ByteArray.mk (Array.mk [(97 : UInt8)])) (10 : Int) (0 : Int) (0 : Int) (0 : Int) false []))))) ≤ 1000000) ∧ ((((f (u.srt (u.rM (ByteArray.mk (Array.mk [(97 : UInt8)])) (1 : Int) (u.bS (10 : Int) (0 : Int) (u.mP (ByteArray.mk (Array.mk [(97 : UInt8)])) (10 : Int) (0 : Int) (0 : Int) (0 : Int) false [])) (u.mP (ByteArray.mk (Array.mk [(98 : UInt8)])) (5 : Int) (u.bS (10 : Int) (0 : Int) (u.mP (ByteArray.mk (Array.mk [(97 : UInt8)])) (10 : Int) (0 : Int) (0 : Int) (0 : Int) false [])) (u.mP (ByteArray.mk (Array.mk [(97 : UInt8)])) (10 : Int) (0 : Int) (0 : Int) (0 : Int) false []) (u.mA (ByteArray.mk (Array.mk [(97 : UInt8)])) (10 : Int) (0 : Int) (0 : Int) (0 : Int) false []) (u.bH (10 : Int) (u.mP (ByteArray.mk (Array.mk [(97 : UInt8)])) (10 : Int) (0 : Int) (0 : Int) (0 : Int) false []) false) (u.mM (ByteArray.mk (Array.mk [(97 : UInt8)])) (10 : Int) (0 : Int) (0 : Int) (0 : Int) false [])) (u.mA (ByteArray.mk (Array.mk [(98 : UInt8)])) (5 : Int) (u.bS (10 : Int) (0 : Int) (u.mP (ByteArray.mk (Array.mk [(97 : UInt8)])) (10 : Int) (0 : Int) (0 : Int) (0 : Int) false [])) (u.mP (ByteArray.mk (Array.mk [(97 : UInt8)])) (10 : Int) (0 : Int) (0 : Int) (0 : Int) false []) (u.mA (ByteArray.mk (Array.mk [(97 : UInt8)])) (10 : Int) (0 : Int) (0 : Int) (0 : Int) false []) (u.bH (10 : Int) (u.mP (ByteArray.mk (Array.mk [(97 : UInt8)])) (10 : Int) (0 : Int) (0 : Int) (0 : Int) false []) false) (u.mM (ByteArray.mk (Array.mk [(97 : UInt8)])) (10 : Int) (0 : Int) (0 : Int) (0 : Int) false [])) (u.bH (10 : Int) (u.mP (ByteArray.mk (Array.mk [(97 : UInt8)])) (10 : Int) (0 : Int) (0 : Int) (0 : Int) false []) false) (u.mM (ByteArray.mk (Array.mk [(98 : UInt8)])) (5 : Int) (u.bS (10 : Int) (0 : Int) (u.mP (ByteArray.mk (Array.mk [(97 : UInt8)])) (10 : Int) (0 : Int) (0 : Int) (0 : Int) false [])) (u.mP (ByteArray.mk (Array.mk [(97 : UInt8)])) (10 : Int) (0 : Int) (0 : Int) (0 : Int) false []) (u.mA (ByteArray.mk (Array.mk [(97 : UInt8)])) (10 : Int) (0 : Int) (0 : Int) (0 : Int) false []) (u.bH (10 : Int) (u.mP (ByteArray.mk (Array.mk [(97 : UInt8)])) (10 : Int) (0 : Int) (0 : Int) (0 : Int) false []) false) (u.mM (ByteArray.mk (Array.mk [(97 : UInt8)])) (10 : Int) (0 : Int) (0 : Int) (0 : Int) false [])))) [(Value.string (ByteArray.mk (Array.mk [(97 : UInt8)]))), (Value.string (ByteArray.mk (Array.mk [(98 : UInt8)])))]) = true) → ([(Value.bool true)] = [(Value.bool true)])) ∧ (((f (u.srt (u.rM (ByteArray.mk (Array.mk [(97 : UInt8)])) (1 : Int) (u.bS (10 : Int) (0 : Int) (u.mP (ByteArray.mk (Array.mk [(97 : UInt8)])) (10 : Int) (0 : Int) (0 : Int) (0 : Int) false [])) (u.mP (ByteArray.mk (Array.mk [(98 : UInt8)])) (5 : Int) (u.bS (10 : Int) (0 : Int) (u.mP (ByteArray.mk (Array.mk [(97 : UInt8)])) (10 : Int) (0 : Int) (0 : Int) (0 : Int) false [])) (u.mP (ByteArray.mk (Array.mk [(97 : UInt8)])) (10 : Int) (0 : Int) (0 : Int) (0 : Int) false []) (u.mA (ByteArray.mk (Array.mk [(97 : UInt8)])) (10 : Int) (0 : Int) (0 : Int) (0 : Int) false []) (u.bH (10 : Int) (u.mP (ByteArray.mk (Array.mk [(97 : UInt8)])) (10 : Int) (0 : Int) (0 : Int) (0 : Int) false []) false) (u.mM (ByteArray.mk (Array.mk [(97 : UInt8)])) (10 : Int) (0 : Int) (0 : Int) (0 : Int) false [])) (u.mA (ByteArray.mk (Array.mk [(98 : UInt8)])) (5 : Int) (u.bS (10 : Int) (0 : Int) (u.mP (ByteArray.mk (Array.mk [(97 : UInt8)])) (10 : Int) (0 : Int) (0 : Int) (0 : Int) false [])) (u.mP (ByteArray.mk (Array.mk [(97 : UInt8)])) (10 : Int) (0 : Int) (0 : Int) (0 : Int) false []) (u.mA (ByteArray.mk (Array.mk [(97 : UInt8)])) (10 : Int) (0 : Int) (0 : Int) (0 : Int) false []) (u.bH (10 : Int) (u.mP (ByteArray.mk (Array.mk [(97 : UInt8)])) (10 : Int) (0 : Int) (0 : Int) (0 : Int) false []) false) (u.mM (ByteArray.mk (Array.mk [(97 : UInt8)])) (10 : Int) (0 : Int) (0 : Int) (0 : Int) false [])) (u.bH (10 : Int) (u.mP (ByteArray.mk (Array.mk [(97 : UInt8)])) (10 : Int) (0 : Int) (0 : Int) (0 : Int) false []) false) (u.mM (ByteArray.mk (Array.mk [(98 : UInt8)])) (5 : Int) (u.bS (10 : Int) (0 : Int) (u.mP (ByteArray.mk (Array.mk [(97 : UInt8)])) (10 : Int) (0 : Int) (0 : Int) (0 : Int) false [])) (u.mP (ByteArray.mk (Array.mk [(97 : UInt8)])) (10 : Int) (0 : Int) (0 : Int) (0 : Int) false []) (u.mA (ByteArray.mk (Array.mk [(97 : UInt8)])) (10 : Int) (0 : Int) (0 : Int) (0 : Int) false []) (u.bH (10 : Int) (u.mP (ByteArray.mk (Array.mk [(97 : UInt8)])) (10 : Int) (0 : Int) (0 : Int) (0 : Int) false []) false) (u.mM (ByteArray.mk (Array.mk [(97 : UInt8)])) (10 : Int) (0 : Int) (0 : Int) (0 : Int) false [])))) [(Value.string (ByteArray.mk (Array.mk [(97 : UInt8)]))), (Value.string (ByteArray.mk (Array.mk [(98 : UInt8)])))]) = false) → ([(Value.bool false)] = [(Value.bool true)])))))) ∧ ((((u.rE (ByteArray.mk (Array.mk [(97 : UInt8)])) (1 : Int) (u.bS (10 : Int) (0 : Int) (u.mP (ByteArray.mk (Array.mk [(97 : UInt8)])) (10 : Int) (0 : Int) (0 : Int) (0 : Int) false [])) (u.mP (ByteArray.mk (Array.mk [(98 : UInt8)])) (5 : Int) (u.bS (10 : Int) (0 : Int) (u.mP (ByteArray.mk (Array.mk [(97 : UInt8)])) (10 : Int) (0 : Int) (0 : Int) (0 : Int) false [])) (u.mP (ByteArray.mk (Array.mk [(97 : UInt8)])) (10 : Int) (0 : Int) (0 : Int) (0 : Int) false []) (u.mA (ByteArray.mk (Array.mk [(97 : UInt8)])) (10 : Int) (0 : Int) (0 : Int) (0 : Int) false []) (u.bH (10 : Int) (u.mP (ByteArray.mk (Array.mk [(97 : UInt8)])) (10 : Int) (0 : Int) (0 : Int) (0 : Int) false []) false) (u.mM (ByteArray.mk (Array.mk [(97 : UInt8)])) (10 : Int) (0 : Int) (0 : Int) (0 : Int) false [])) (u.mA (ByteArray.mk (Array.mk [(98 : UInt8)])) (5 : Int) (u.bS (10 : Int) (0 : Int) (u.mP (ByteArray.mk (Array.mk [(97 : UInt8)])) (10 : Int) (0 : Int) (0 : Int) (0 : Int) false [])) (u.mP (ByteArray.mk (Array.mk [(97 : UInt8)])) (10 : Int) (0 : Int) (0 : Int) (0 : Int) false []) (u.mA (ByteArray.mk (Array.mk [(97 : UInt8)])) (10 : Int) (0 : Int) (0 : Int) (0 : Int) false []) (u.bH (10 : Int) (u.mP (ByteArray.mk (Array.mk [(97 : UInt8)])) (10 : Int) (0 : Int) (0 : Int) (0 : Int) false []) false) (u.mM (ByteArray.mk (Array.mk [(97 : UInt8)])) (10 : Int) (0 : Int) (0 : Int) (0 : Int) false [])) (u.bH (10 : Int) (u.mP (ByteArray.mk (Array.mk [(97 : UInt8)])) (10 : Int) (0 : Int) (0 : Int) (0 : Int) false []) false) (u.mM (ByteArray.mk (Array.mk [(98 : UInt8)])) (5 : Int) (u.bS (10 : Int) (0 : Int) (u.mP (ByteArray.mk (Array.mk [(97 : UInt8)])) (10 : Int) (0 : Int) (0 : Int) (0 : Int) false [])) (u.mP (ByteArray.mk (Array.mk [(97 : UInt8)])) (10 : Int) (0 : Int) (0 : Int) (0 : Int) false []) (u.mA (ByteArray.mk (Array.mk [(97 : UInt8)])) (10 : Int) (0 : Int) (0 : Int) (0 : Int) false []) (u.bH (10 : Int) (u.mP (ByteArray.mk (Array.mk [(97 : UInt8)])) (10 : Int) (0 : Int) (0 : Int) (0 : Int) false []) false) (u.mM (ByteArray.mk (Array.mk [(97 : UInt8)])) (10 : Int) (0 : Int) (0 : Int) (0 : Int) false []))) == (0 : Int)) = false) → ([(Value.bool false)] = [(Value.bool true)])))) ∧ ((((u.rN (ByteArray.mk (Array.mk [(97 : UInt8)])) (1 : Int) (u.bS (10 : Int) (0 : Int) (u.mP (ByteArray.mk (Array.mk [(97 : UInt8)])) (10 : Int) (0 : Int) (0 : Int) (0 : Int) false [])) (u.mP (ByteArray.mk (Array.mk [(98 : UInt8)])) (5 : Int) (u.bS (10 : Int) (0 : Int) (u.mP (ByteArray.mk (Array.mk [(97 : UInt8)])) (10 : Int) (0 : Int) (0 : Int) (0 : Int) false [])) (u.mP (ByteArray.mk (Array.mk [(97 : UInt8)])) (10 : Int) (0 : Int) (0 : Int) (0 : Int) false []) (u.mA (ByteArray.mk (Array.mk [(97 : UInt8)])) (10 : Int) (0 : Int) (0 : Int) (0 : Int) false []) (u.bH (10 : Int) (u.mP (ByteArray.mk (Array.mk [(97 : UInt8)])) (10 : Int) (0 : Int) (0 : Int) (0 : Int) false []) false) (u.mM (ByteArray.mk (Array.mk [(97 : UInt8)])) (10 : Int) (0 : Int) (0 : Int) (0 : Int) false [])) (u.mA (ByteArray.mk (Array.mk [(98 : UInt8)])) (5 : Int) (u.bS (10 : Int) (0 : Int) (u.mP (ByteArray.mk (Array.mk [(97 : UInt8)])) (10 : Int) (0 : Int) (0 : Int) (0 : Int) false [])) (u.mP (ByteArray.mk (Array.mk [(97 : UInt8)])) (10 : Int) (0 : Int) (0 : Int) (0 : Int) false []) (u.mA (ByteArray.mk (Array.mk [(97 : UInt8)])) (10 : Int) (0 : Int) (0 : Int) (0 : Int) false []) (u.bH (10 : Int) (u.mP (ByteArray.mk (Array.mk [(97 : UInt8)])) (10 : Int) (0 : Int) (0 : Int) (0 : Int) false []) false) (u.mM (ByteArray.mk (Array.mk [(97 : UInt8)])) (10 : Int) (0 : Int) (0 : Int) (0 : Int) false [])) (u.bH (10 : Int) (u.mP (ByteArray.mk (Array.mk [(97 : UInt8)])) (10 : Int) (0 : Int) (0 : Int) (0 : Int) false []) false) (u.mM (ByteArray.mk (Array.mk [(98 : UInt8)])) (5 : Int) (u.bS (10 : Int) (0 : Int) (u.mP (ByteArray.mk (Array.mk [(97 : UInt8)])) (10 : Int) (0 : Int) (0 : Int) (0 : Int) false [])) (u.mP (ByteArray.mk (Array.mk [(97 : UInt8)])) (10 : Int) (0 : Int) (0 : Int) (0 : Int) false []) (u.mA (ByteArray.mk (Array.mk [(97 : UInt8)])) (10 : Int) (0 : Int) (0 : Int) (0 : Int) false []) (u.bH (10 : Int) (u.mP (ByteArray.mk (Array.mk [(97 : UInt8)])) (10 : Int) (0 : Int) (0 : Int) (0 : Int) false []) false) (u.mM (ByteArray.mk (Array.mk [(97 : UInt8)])) (10 : Int) (0 : Int) (0 : Int) (0 : Int) false []))) == (2 : Int)) = false) → ([(Value.bool false)] = [(Value.bool true)])))) ∧ ((((u.mE (ByteArray.mk (Array.mk [(98 : UInt8)])) (5 : Int) (u.bS (10 : Int) (0 : Int) (u.mP (ByteArray.mk (Array.mk [(97 : UInt8)])) (10 : Int) (0 : Int) (0 : Int) (0 : Int) false [])) (u.mP (ByteArray.mk (Array.mk [(97 : UInt8)])) (10 : Int) (0 : Int) (0 : Int) (0 : Int) false []) (u.mA (ByteArray.mk (Array.mk [(97 : UInt8)])) (10 : Int) (0 : Int) (0 : Int) (0 : Int) false []) (u.bH (10 : Int) (u.mP (ByteArray.mk (Array.mk [(97 : UInt8)])) (10 : Int) (0 : Int) (0 : Int) (0 : Int) false []) false) (u.mM (ByteArray.mk (Array.mk [(97 : UInt8)])) (10 : Int) (0 : Int) (0 : Int) (0 : Int) false [])) == (0 : Int)) = false) → ([(Value.bool false)] = [(Value.bool true)])))) ∧ ((((u.mN (ByteArray.mk (Array.mk [(98 : UInt8)])) (5 : Int) (u.bS (10 : Int) (0 : Int) (u.mP (ByteArray.mk (Array.mk [(97 : UInt8)])) (10 : Int) (0 : Int) (0 : Int) (0 : Int) false [])) (u.mP (ByteArray.mk (Array.mk [(97 : UInt8)])) (10 : Int) (0 : Int) (0 : Int) (0 : Int) false []) (u.mA (ByteArray.mk (Array.mk [(97 : UInt8)])) (10 : Int) (0 : Int) (0 : Int) (0 : Int) false []) (u.bH (10 : Int) (u.mP (ByteArray.mk (Array.mk [(97 : UInt8)])) (10 : Int) (0 : Int) (0 : Int) (0 : Int) false []) false) (u.mM (ByteArray.mk (Array.mk [(97 : UInt8)])) (10 : Int) (0 : Int) (0 : Int) (0 : Int) false [])) == (2 : Int)) = false) → ([(Value.bool false)] = [(Value.bool true)])))) ∧ ((((std.feq (std.fof ((u.bS (10 : Int) (0 : Int) (u.mP (ByteArray.mk (Array.mk [(97 : UInt8)])) (10 : Int) (0 : Int) (0 : Int) (0 : Int) false [])) + (u.mP (ByteArray.mk (Array.mk [(97 : UInt8)])) (10 : Int) (0 : Int) (0 : Int) (0 : Int) false []))) 4626322717216342016) && (std.feq (std.fof (u.mA (ByteArray.mk (Array.mk [(97 : UInt8)])) (10 : Int) (0 : Int) (0 : Int) (0 : Int) false [])) 4621819117588971520)) = false) → ([(Value.bool false)] = [(Value.bool true)])))) ∧ ((((u.bE (10 : Int) (u.mP (ByteArray.mk (Array.mk [(97 : UInt8)])) (10 : Int) (0 : Int) (0 : Int) (0 : Int) false [])) == (0 : Int)) = false) → ([(Value.bool false)] = [(Value.bool true)])))) ∧ ((((u.mE (ByteArray.mk (Array.mk [(97 : UInt8)])) (10 : Int) (0 : Int) (0 : Int) (0 : Int) false []) == (0 : Int)) = false) → ([(Value.bool false)] = [(Value.bool true)])))) ∧ ((((u.mN (ByteArray.mk (Array.mk [(97 : UInt8)])) (10 : Int) (0 : Int) (0 : Int) (0 : Int) false []) == (10 : Int)) = false) → ([(Value.bool false)] = [(Value.bool true)])))))))) := by kernel_rfl
end Go.Proofs.Ytddejgkfgnokgaa
end
section
namespace Go.Proofs.Ytddejgkfgnokgaa
open Go.Abs Go
set_option maxRecDepth 100000 in
theorem ss_vc (f : List Value → List Value → Bool) (xs ys : List Value) (I : IL → Prop) (m : IL → Nat) : runP std noCon 40 (sameLs zS xs ys I m) (ssP std f) 14 Try.f14 (xs, ys, ()) =
  ((((!(((List.length xs) : Int) == ((List.length ys) : Int))) = true) → ([(Value.bool false)] = [(Value.bool (f xs ys))])) ∧ (((!(((List.length xs) : Int) == ((List.length ys) : Int))) = false) → (∃ (d8 : IL), (([(Filler.dl xs), (Filler.dl ys), (Filler.val (Value.int IntKind.i64 (d8.i)))] = [(Filler.dl xs), (Filler.dl ys), (Filler.val (Value.int IntKind.i64 (0 : Int)))]) ∧ ((I d8) ∧ (∀ (d9 : IL), ((I d9) → ((((decide ((d9.i) < ((List.length xs) : Int))) = true) → ((((0 : Int) ≤ (d9.i)) ∧ ((d9.i) < ((List.length xs) : Int))) ∧ ((((0 : Int) ≤ (d9.i)) ∧ ((d9.i) < ((List.length ys) : Int))) ∧ ((((!(std.seq (eS xs (Int.toNat (d9.i))) (eS ys (Int.toNat (d9.i))))) = true) → ([(Value.bool false)] = [(Value.bool (f xs ys))])) ∧ (((!(std.seq (eS xs (Int.toNat (d9.i))) (eS ys (Int.toNat (d9.i))))) = false) → ((((-9223372036854775808 : Int) ≤ ((d9.i) + (1 : Int))) ∧ (((d9.i) + (1 : Int)) ≤ (9223372036854775807 : Int))) ∧ (∃ (d13 : IL), (([(Filler.dl xs), (Filler.dl ys), (Filler.val (Value.int IntKind.i64 (d13.i)))] = [(Filler.dl xs), (Filler.dl ys), (Filler.val (Value.int IntKind.i64 ((d9.i) + (1 : Int))))]) ∧ ((Nat.le (Nat.succ (m d13)) (m d9)) ∧ (I d13)))))))))) ∧ (((decide ((d9.i) < ((List.length xs) : Int))) = false) → ([(Value.bool true)] = [(Value.bool (f xs ys))])))))))))) := by kernel_rfl
end Go.Proofs.Ytddejgkfgnokgaa
end
section
namespace Go.Proofs.Ytddejgkfgnokgaa
open Go.RowKit Go.Abs Go
set_option maxRecDepth 100000
def seqT (a b : ByteArray) : Bool := a.data.toList == b.data.toList
def ssF (xs ys : List Value) : Bool := xs.length == ys.length && (List.range xs.length).all fun i => seqT (eS xs i) (eS ys i)
theorem ss_run (xs ys : List Value) (hx : xs.length ≤ 1000000) : runP std noCon 40 (sameLs zS xs ys (fun d => xs.length = ys.length ∧ sameI (fun i => seqT (eS xs i) (eS ys i)) xs.length d) fun d => ((xs.length : Int) - d.i).toNat) (ssP std ssF) 14 Try.f14 (xs, ys, ()) := by
  rw [ss_vc]
  have key : ∀ b, ssF xs ys = b → ([Value.bool b] = [Value.bool (ssF xs ys)]) := fun b hb => by rw [hb]
  refine ⟨fun h => key _ ?_, fun h => ?_⟩
  · unfold ssF
    have : (xs.length == ys.length) = false := by simp at h; simp; omega
    rw [this]; rfl
  · have hl : xs.length = ys.length := by have := h; simp at this; omega
    refine ⟨⟨0⟩, rfl, ⟨hl, 0, rfl, Nat.zero_le _, fun j hj => by omega⟩, fun d ⟨_, i, hi, hle, hall⟩ => ⟨fun h => ?_, fun h => key _ ?_⟩⟩
    · have h := of_decide_eq_true h
      rw [hi, Int.toNat_natCast]
      refine ⟨by omega, by omega, fun e => key _ ?_, fun e => ⟨by omega, ⟨(i : Int) + 1⟩, rfl, ?_, hl, i + 1, rfl, by omega, fun j hj => ?_⟩⟩
      · have e : (seqT (eS xs i) (eS ys i)) = false := by
          have e2 : std.seq (eS xs i) (eS ys i) = false := by simpa using e
          exact e2
        unfold ssF
        rw [all_not (p := fun i => seqT (eS xs i) (eS ys i)) (i := i) (by omega) e, Bool.and_false]
      · show ((xs.length : Int) - ((i : Int) + 1)).toNat + 1 ≤ ((xs.length : Int) - (i : Int)).toNat
        omega
      · by_cases c : j = i
        · subst c
          have e2 : std.seq (eS xs j) (eS ys j) = true := by simpa using e
          exact e2
        · exact hall j (by omega)
    · have h := of_decide_eq_false h
      unfold ssF
      rw [all_yes fun j hj => hall j (by omega), hl]; simp
theorem ss_ok : PFOk Try.prog 14 (ssP std ssF) :=
  pf_ok Try.progOk (noCon_ok _) (inCallF_ok 60) (ssP std ssF) Try.func14 (show _ = some (bodyS Try.prog 14) by kernel_rfl) fun d hd => ss_run d.1 d.2.1 hd
end Go.Proofs.Ytddejgkfgnokgaa
end
section
namespace Go.Proofs.Ytddejgkfgnokgaa
open Go.RowKit Go.Abs Go
set_option maxRecDepth 100000
theorem lpool_run (s p a : Int) (h : Bool) (es : Ents) (hd : ((0 : Int) ≤ s ∧ s ≤ 1073741824) ∧ ((0 : Int) ≤ p ∧ p ≤ 1073741824) ∧ ((0 : Int) ≤ a ∧ a ≤ 1073741824) ∧ s + p ≤ 1073741824) : runW std noCon 60 noL (poolO std) 26 Try.f26 (s, p, a, h, es, ()) :=
  (pool_vc s p a h es).mpr (⟨⟨by omega, by omega⟩, rfl⟩)
theorem lpool_ok : OFOk Try.prog 26 (poolO std) :=
  of_ok (LS := fun _ => noL) Try.progOk (noCon_ok _) (inCallF_ok 60) (poolO std) Try.func26 (show _ = some (bodyS Try.prog 26) by kernel_rfl) (by decide) rfl fun d hd => lpool_run d.1 d.2.1 d.2.2.1 d.2.2.2.1 d.2.2.2.2.1 hd
theorem plCon_ok : ConOk Try.prog (plCon std) := draw_ok (noCon_ok _) fun x hx => by
  rw [List.mem_singleton.1 hx]; exact ocd_ok lpool_ok
theorem lpl_run (s p a : Int) (h : Bool) (es : Ents) (hd : ((0 : Int) ≤ s ∧ s ≤ 1073741824) ∧ ((0 : Int) ≤ p ∧ p ≤ 1073741824) ∧ ((0 : Int) ≤ a ∧ a ≤ 1073741824) ∧ s + p ≤ 1073741824) : runW std (plCon std) 60 noL (plO std) 12 Try.f12 (s, p, a, h, es, ()) :=
  (pl_vc s p a h es).mpr (⟨hd, ⟨⟨rfl, rfl⟩, rfl⟩⟩)
theorem lpl_ok : OFOk Try.prog 12 (plO std) :=
  of_ok (LS := fun _ => noL) Try.progOk (plCon_ok) (inCallF_ok 60) (plO std) Try.func12 (show _ = some (bodyS Try.prog 12) by kernel_rfl) (by decide) rfl fun d hd => lpl_run d.1 d.2.1 d.2.2.1 d.2.2.2.1 d.2.2.2.2.1 hd
theorem lpend_run (s p a : Int) (h : Bool) (es : Ents)  : runW std noCon 60 noL (pendO) 21 Try.f21 (s, p, a, h, es, ()) :=
  (pend_vc s p a h es).mpr (rfl)
theorem lpend_ok : OFOk Try.prog 21 (pendO) :=
  of_ok (LS := fun _ => noL) Try.progOk (noCon_ok _) (inCallF_ok 60) (pendO) Try.func21 (show _ = some (bodyS Try.prog 21) by kernel_rfl) (by decide) rfl fun d _ => lpend_run d.1 d.2.1 d.2.2.1 d.2.2.2.1 d.2.2.2.2.1
theorem lhltd_run (s p a : Int) (h : Bool) (es : Ents)  : runW std noCon 60 noL (hltdO) 20 Try.f20 (s, p, a, h, es, ()) :=
  (hltd_vc s p a h es).mpr (⟨fun e => by rw [e], fun e => by rw [e]⟩)
theorem lhltd_ok : OFOk Try.prog 20 (hltdO) :=
  of_ok (LS := fun _ => noL) Try.progOk (noCon_ok _) (inCallF_ok 60) (hltdO) Try.func20 (show _ = some (bodyS Try.prog 20) by kernel_rfl) (by decide) rfl fun d _ => lhltd_run d.1 d.2.1 d.2.2.1 d.2.2.2.1 d.2.2.2.2.1
theorem lhalt_run (s p a : Int) (h : Bool) (es : Ents)  : runW std noCon 60 noL (haltO) 19 Try.f19 (s, p, a, h, es, ()) :=
  (halt_vc s p a h es).mpr (rfl)
theorem lhalt_ok : OFOk Try.prog 19 (haltO) :=
  of_ok (LS := fun _ => noL) Try.progOk (noCon_ok _) (inCallF_ok 60) (haltO) Try.func19 (show _ = some (bodyS Try.prog 19) by kernel_rfl) (by decide) rfl fun d _ => lhalt_run d.1 d.2.1 d.2.2.1 d.2.2.2.1 d.2.2.2.2.1
theorem usersCon_ok : ConOk Try.prog (usersCon rtF) := conL_ok fun x hx => by
  rw [List.mem_singleton.1 hx]; exact sortCR_ok
theorem lusers_run (s p a : Int) (h : Bool) (es : Ents) (hd : okTR es) : runW std (usersCon rtF) 60 noL (usersO rtF) 15 Try.f15 (s, p, a, h, es, ()) :=
  (users_vc rtF s p a h es).mpr (⟨hd, rfl⟩)
theorem lusers_ok : OFOk Try.prog 15 (usersO rtF) :=
  of_ok (LS := fun _ => noL) Try.progOk (usersCon_ok) (inCallF_ok 60) (usersO rtF) Try.func15 (show _ = some (bodyS Try.prog 15) by kernel_rfl) (by decide) rfl fun d hd => lusers_run d.1 d.2.1 d.2.2.1 d.2.2.2.1 d.2.2.2.2.1 hd
theorem lshares_run (us : BS) (s p a : Int) (h : Bool) (es : Ents)  : runW std noCon 60 noL (sharesO std) 17 Try.f17 (us, s, p, a, h, es, ()) :=
  (shares_vc us s p a h es).mpr (rfl)
theorem lshares_ok : OFOk Try.prog 17 (sharesO std) :=
  of_ok (LS := fun _ => noL) Try.progOk (noCon_ok _) (inCallF_ok 60) (sharesO std) Try.func17 (show _ = some (bodyS Try.prog 17) by kernel_rfl) (by decide) rfl fun d _ => lshares_run d.1 d.2.1 d.2.2.1 d.2.2.2.1 d.2.2.2.2.1 d.2.2.2.2.2.1
theorem lledcp_run (s p a : Int) (h : Bool) (es : Ents)  : runW std noCon 60 noL (ledCpO) 22 Try.f22 (s, p, a, h, es, ()) :=
  (ledcp_vc s p a h es).mpr (rfl)
theorem lledcp_ok : OFOk Try.prog 22 (ledCpO) :=
  of_ok (LS := fun _ => noL) Try.progOk (noCon_ok _) (inCallF_ok 60) (ledCpO) Try.func22 (show _ = some (bodyS Try.prog 22) by kernel_rfl) (by decide) rfl fun d _ => lledcp_run d.1 d.2.1 d.2.2.1 d.2.2.2.1 d.2.2.2.2.1
theorem lback_ok : OFOk Try.prog 11 (backO std rtF) :=
  of_ok (LS := fun _ => noL) Try.progOk (noCon_ok _) (inCallF_ok 60) (backO std rtF) Try.func11 (show _ = some (bodyS Try.prog 11) by kernel_rfl) (by decide) rfl fun d hd => back_run d.1 d.2.1 d.2.2.1 d.2.2.2.1 d.2.2.2.2.1 d.2.2.2.2.2.1 hd
theorem mrCon_ok : ConOk Try.prog (mrCon std rtF) := draw_ok (conL_ok fun x hx => by
    rcases List.mem_cons.1 hx with rfl | hx
    · exact lpool_ok.sem
    rw [List.mem_singleton.1 hx]
    exact pcon_ok lmay_ok) fun x hx => by
  rw [List.mem_singleton.1 hx]; exact ocd_ok lpool_ok
theorem lmint_ok : OFOk Try.prog 10 (mintO rtF) :=
  of_ok (LS := fun _ => noL) Try.progOk (mrCon_ok) (inCallF_ok 60) (mintO rtF) Try.func10 (show _ = some (bodyS Try.prog 10) by kernel_rfl) (by decide) rfl fun d hd => mint_run d.1 d.2.1 d.2.2.1 d.2.2.2.1 d.2.2.2.2.1 d.2.2.2.2.2.1 d.2.2.2.2.2.2.1 hd
theorem lred_ok : OFOk Try.prog 13 (redO rtF) :=
  of_ok (LS := fun _ => noL) Try.progOk (mrCon_ok) (inCallF_ok 60) (redO rtF) Try.func13 (show _ = some (bodyS Try.prog 13) by kernel_rfl) (by decide) rfl fun d hd => red_run d.1 d.2.1 d.2.2.1 d.2.2.2.1 d.2.2.2.2.1 d.2.2.2.2.2.1 d.2.2.2.2.2.2.1 hd
theorem lrmint_ok : OFOk Try.prog 23 (rmintO rtF) :=
  of_ok (LS := fun _ => noL) Try.progOk (noCon_ok _) (inCallF_ok 60) (rmintO rtF) Try.func23 (show _ = some (bodyS Try.prog 23) by kernel_rfl) (by decide) rfl fun d hd => rmint_run d.1 d.2.1 d.2.2.1 d.2.2.2.1 d.2.2.2.2.1 d.2.2.2.2.2.1 d.2.2.2.2.2.2.1 hd
theorem lrred_ok : OFOk Try.prog 24 (rredO rtF) :=
  of_ok (LS := fun _ => noL) Try.progOk (noCon_ok _) (inCallF_ok 60) (rredO rtF) Try.func24 (show _ = some (bodyS Try.prog 24) by kernel_rfl) (by decide) rfl fun d hd => rred_run d.1 d.2.1 d.2.2.1 d.2.2.2.1 d.2.2.2.2.1 d.2.2.2.2.2.1 d.2.2.2.2.2.2.1 hd
theorem lri_ok : OFOk Try.prog 18 (riO rtF) :=
  of_ok (LS := fun _ => noL) Try.progOk (noCon_ok _) (inCallF_ok 60) (riO rtF) Try.func18 (show _ = some (bodyS Try.prog 18) by kernel_rfl) (by decide) rfl fun d hd => ri_run d.1.1 d.1.2 d.2.1.1 d.2.1.2 hd
def aNm : BS := ByteArray.mk (Array.mk [(97 : UInt8)])
theorem rk0 : RK [] 0 0 0 [] := ⟨rfl, List.nodup_nil, fun x hx => (by cases hx), fun x hx => (by cases hx), rfl, Int.le_refl _, Int.le_refl _, by decide, by decide⟩
theorem rk1 : RK [(nmA, 10)] 10 10 10 (imgT [(nmA, 10)]) := ⟨rfl, by decide, fun x hx => by rw [List.mem_singleton.1 hx]; exact List.mem_cons_self, fun x hx => by rw [List.mem_singleton.1 hx]; decide, rfl, by decide, by decide, by decide, by decide⟩
theorem nm_two {x : BS × Int} {p q : Int} (hx : x ∈ [(nmA, p), (nmB, q)]) (hp : 1 ≤ p) (hq : 1 ≤ q) : x.1 ∈ nms ∧ 1 ≤ x.2 := by
  rcases List.mem_cons.1 hx with rfl | hx
  · exact ⟨List.mem_cons_self, hp⟩
  · rw [List.mem_singleton.1 hx]; exact ⟨List.mem_cons_of_mem _ List.mem_cons_self, hq⟩
theorem rk2 : RK [(nmA, 10), (nmB, 2)] 10 15 12 (imgT [(nmA, 10), (nmB, 2)]) := ⟨rfl, by decide, fun x hx => (nm_two hx (by decide) (by decide)).1, fun x hx => (nm_two hx (by decide) (by decide)).2, rfl, by decide, by decide, by decide, by decide⟩
theorem rk3 : RK [(nmA, 9), (nmB, 2)] 10 13 11 (imgT [(nmA, 9), (nmB, 2)]) := ⟨rfl, by decide, fun x hx => (nm_two hx (by decide) (by decide)).1, fun x hx => (nm_two hx (by decide) (by decide)).2, rfl, by decide, by decide, by decide, by decide⟩
theorem rq1N : rtF.mN (ByteArray.mk (Array.mk [(97 : UInt8)])) 10 0 0 0 false [] = 10 := by kernel_rfl
theorem rq1E : rtF.mE (ByteArray.mk (Array.mk [(97 : UInt8)])) 10 0 0 0 false [] = 0 := by kernel_rfl
theorem rq1P : rtF.mP (ByteArray.mk (Array.mk [(97 : UInt8)])) 10 0 0 0 false [] = 10 := by kernel_rfl
theorem rq1A : rtF.mA (ByteArray.mk (Array.mk [(97 : UInt8)])) 10 0 0 0 false [] = 10 := by kernel_rfl
theorem rq1M : rtF.mM (ByteArray.mk (Array.mk [(97 : UInt8)])) 10 0 0 0 false [] = imgT [(nmA, 10)] := by kernel_rfl
theorem rqbE : rtF.bE 10 10 = 0 := by kernel_rfl
theorem rqbS : rtF.bS 10 0 10 = 10 := by kernel_rfl
theorem rqbH : rtF.bH 10 10 false = false := by kernel_rfl
theorem rq2N : rtF.mN (ByteArray.mk (Array.mk [(98 : UInt8)])) 5 10 10 10 false (imgT [(nmA, 10)]) = 2 := by kernel_rfl
theorem rq2E : rtF.mE (ByteArray.mk (Array.mk [(98 : UInt8)])) 5 10 10 10 false (imgT [(nmA, 10)]) = 0 := by kernel_rfl
theorem rq2P : rtF.mP (ByteArray.mk (Array.mk [(98 : UInt8)])) 5 10 10 10 false (imgT [(nmA, 10)]) = 15 := by kernel_rfl
theorem rq2A : rtF.mA (ByteArray.mk (Array.mk [(98 : UInt8)])) 5 10 10 10 false (imgT [(nmA, 10)]) = 12 := by kernel_rfl
theorem rq2M : rtF.mM (ByteArray.mk (Array.mk [(98 : UInt8)])) 5 10 10 10 false (imgT [(nmA, 10)]) = imgT [(nmA, 10), (nmB, 2)] := by kernel_rfl
theorem rq3N : rtF.rN (ByteArray.mk (Array.mk [(97 : UInt8)])) 1 10 15 12 false (imgT [(nmA, 10), (nmB, 2)]) = 2 := by kernel_rfl
theorem rq3E : rtF.rE (ByteArray.mk (Array.mk [(97 : UInt8)])) 1 10 15 12 false (imgT [(nmA, 10), (nmB, 2)]) = 0 := by kernel_rfl
theorem rq3P : rtF.rP (ByteArray.mk (Array.mk [(97 : UInt8)])) 1 10 15 12 false (imgT [(nmA, 10), (nmB, 2)]) = 13 := by kernel_rfl
theorem rq3A : rtF.rA (ByteArray.mk (Array.mk [(97 : UInt8)])) 1 10 15 12 false (imgT [(nmA, 10), (nmB, 2)]) = 11 := by kernel_rfl
theorem rq3M : rtF.rM (ByteArray.mk (Array.mk [(97 : UInt8)])) 1 10 15 12 false (imgT [(nmA, 10), (nmB, 2)]) = imgT [(nmA, 9), (nmB, 2)] := by kernel_rfl
end Go.Proofs.Ytddejgkfgnokgaa
end
section
namespace Go.Proofs.Ytddejgkfgnokgaa
open Go.RowKit Go.Abs Go
noncomputable section
variable (S : Sy) (g : KvF) (u : RtF)
structure RtA where
  i : Int
  s : Int
  p : Int
  a : Int
  h : Bool
  es : Ents
structure RtB where
  i : Int
  x0 : Nat
  y0 : Nat
  x1 : Nat
  y1 : Nat
  sm : Int
  us : List Value
  m : Int
  j : Int
  s : Int
  p : Int
  a : Int
  h : Bool
  es : Ents
  k : Int
  w : Int
  n : Int
def rtBl : List (Option SB) := [some (ledB 1), some (.smap zS zI), some (refB 3), some (.smap zS zI)]
def rtSh : Shape := ⟨slotsOf 259 [(0, .one (.zero (.deep zAsk))), (3, .one (.zero (.ptr 0 0))), (4, .one (.zero (.ptr 2 0))), (5, .one (.zero .hole))], rtBl⟩
def rtSh3 : Shape := ⟨slotsOf 259 [(0, .one (.zero (.deep zAsk))), (3, .one (.zero (.ptr 0 0))), (4, .one (.zero (.ptr 2 0))), (5, .one (.zero .hole)), (6, .one (.zero (.ptr 4 0))), (8, .one (.zero .hole)), (14, .one (.zero .hole)), (15, .one (.zero .hole)), (16, .one (.zero (.deep zS))), (188, .one (.zero (.deep zS))), (189, .one (.zero .hole)), (190, .one (.zero .hole))], rtBl ++ [some (.cells [.zero .hole, .zero .hole, .zero .hole] false)]⟩
def rtLs (ps : List Value) (I : RtA → Prop) (m : RtA → Nat) (J : RtB → Prop) (q : RtB → Nat) : Loops := fun id =>
  if id = 0 then some [{ D := RtA, sh := rtSh, rho := rtSh.find 0, fills := fun d => [.dl ps, .val (.int .i64 d.i), .val (.int .i64 d.s), .val (.int .i64 d.p), .val (.int .i64 d.a), .val (.bool d.h), .me d.es, .val (.int .i64 d.s), .val (.int .i64 d.p), .val (.int .i64 d.a), .val (.bool d.h), .me d.es], I := I, m := m }] else
  if id = 3 then some [{ D := RtB, sh := rtSh3, rho := rtSh3.find 0, fills := fun d => [.dl ps, .val (.int .i64 d.i), .val (.complex .f64 d.x0 d.y0), .val (.complex .f64 d.x1 d.y1), .val (.int .i64 d.sm), .dl d.us, .dl d.us, .val (.int .i64 d.m), .val (.int .i64 d.j), .val (.int .i64 d.s), .val (.int .i64 d.p), .val (.int .i64 d.a), .val (.bool d.h), .me d.es, .val (.int .i64 d.s), .val (.int .i64 d.p), .val (.int .i64 d.a), .val (.bool d.h), .me d.es, .val (.int .i64 d.k), .val (.int .i64 d.w), .val (.int .i64 d.n)], I := J, m := q, gh := some fun d => [.int .i64 d.i] }] else none
/-- What is known of comparisons: both ledgers are alike. -/
def rtTell (o : Oper) (_ : Operand → Value) : Option Bool :=
  match o.dst with
  | some 131 => some false
  | some 135 => some false
  | some 155 => some false
  | some 164 => some false
  | some 173 => some false
  | some 184 => some false
  | some 204 => some false
  | some 216 => some false
  | some 229 => some false
  | _ => none
def rtCon : Con := Con.tellO ((conL [(16, pcon (withinP S g)), (10, ocon (mintO u)), (13, ocon (redO u)), (23, ocon (rmintO u)), (24, ocon (rredO u)), (11, ocon (backO S u)), (19, ocon haltO), (12, ocon (plO S)), (15, ocon (usersO u)), (17, ocon (sharesO S)), (22, ocon ledCpO), (18, ocon (riO u)), (3, closedC (.bool true))]).draw [(21, ocd pendO), (20, ocd hltdO), (15, ocd (usersO u)), (17, ocd (sharesO S))]) rtTell
def rtP : PF := pf (.cons cAsks .nil) (fun _ => True) [.bool false] fun _ => [.bool true]
end
end Go.Proofs.Ytddejgkfgnokgaa
end
section
namespace Go.Proofs.Ytddejgkfgnokgaa
open Go.Abs Go
def rtUsr (g : KvF) (ps : List Value) (i : Int) : BS :=
  (eS [(Value.string (ByteArray.mk (Array.mk [(97 : UInt8)]))), (Value.string (ByteArray.mk (Array.mk [(98 : UInt8)]))), (Value.string (ByteArray.mk (Array.mk [(99 : UInt8)]))), (Value.string (ByteArray.mk (Array.mk []))), (Value.string (ByteArray.mk (Array.mk [(111 : UInt8), (110 : UInt8), (101 : UInt8), (32 : UInt8), (116 : UInt8), (104 : UInt8), (97 : UInt8), (116 : UInt8), (32 : UInt8), (105 : UInt8), (115 : UInt8), (32 : UInt8), (116 : UInt8), (111 : UInt8), (111 : UInt8), (32 : UInt8), (108 : UInt8), (111 : UInt8), (110 : UInt8), (103 : UInt8)])))] (Int.toNat (g.wi (std.dint (std.fld (std.get zAsk ps (Int.toNat i)) 1)) (0 : Int) (4 : Int))))
def rtBody (u : RtF) (ps : List Value) (I : RtA → Prop) (m : RtA → Nat) (J : RtB → Prop) (q : RtB → Nat) (d10 : RtA) (D0 D1 : RtB) : Prop :=
  (([(Value.int IntKind.i64 (D1.i))] = [(Value.int IntKind.i64 (D0.i))]) → ((((decide ((D1.j) < (D1.m))) = true) → ((((0 : Int) ≤ (D1.j)) ∧ ((D1.j) < ((List.length (D1.us)) : Int))) ∧ ((((decide ((0 : Int) < (D1.j))) = true) → ((((-9223372036854775808 : Int) ≤ ((D1.j) - (1 : Int))) ∧ (((D1.j) - (1 : Int)) ≤ (9223372036854775807 : Int))) ∧ ((((0 : Int) ≤ ((D1.j) - (1 : Int))) ∧ (((D1.j) - (1 : Int)) < ((List.length (D1.us)) : Int))) ∧ (((!(std.slt (eS (D1.us) (Int.toNat ((D1.j) - (1 : Int)))) (eS (D1.us) (Int.toNat (D1.j))))) = false) ∧ (True ∧ (((!((std.dint (std.mget (Value.string (ByteArray.mk (Array.mk []))) (Value.int IntKind.i64 (0 : Int)) (D1.es) (Value.string (eS (D1.us) (Int.toNat (D1.j)))))) == (std.dint (std.mget (Value.string (ByteArray.mk (Array.mk []))) (Value.int IntKind.i64 (0 : Int)) (D1.es) (Value.string (eS (D1.us) (Int.toNat (D1.j)))))))) = false) ∧ ((((Option.some (Value.func (Go.Fn.yield 0) (Array.mk [(Value.int IntKind.i64 (std.dint (std.mget (Value.string (ByteArray.mk (Array.mk []))) (Value.int IntKind.i64 (0 : Int)) (D1.es) (Value.string (eS (D1.us) (Int.toNat (D1.j)))))))]) (Array.mk []))) = (Option.some (Value.func (Go.Fn.yield 0) (Array.mk [(Value.int IntKind.i64 (std.dint (std.mget (Value.string (ByteArray.mk (Array.mk []))) (Value.int IntKind.i64 (0 : Int)) (D1.es) (Value.string (eS (D1.us) (Int.toNat (D1.j)))))))]) (Array.mk [])))) ∧ ((Option.some (Value.func (Go.Fn.yield 0) (Array.mk [(Value.int IntKind.i64 (std.dint (std.mget (Value.string (ByteArray.mk (Array.mk []))) (Value.int IntKind.i64 (0 : Int)) (D1.es) (Value.string (eS (D1.us) (Int.toNat (D1.j)))))))]) (Array.mk []))) = (Option.some (Value.func (Go.Fn.yield 0) (Array.mk [(Value.int IntKind.i64 (std.dint (std.mget (Value.string (ByteArray.mk (Array.mk []))) (Value.int IntKind.i64 (0 : Int)) (D1.es) (Value.string (eS (D1.us) (Int.toNat (D1.j)))))))]) (Array.mk []))))) ∧ (True ∧ ((((-9223372036854775808 : Int) ≤ ((D1.sm) + (std.dint (std.mget (Value.string (ByteArray.mk (Array.mk []))) (Value.int IntKind.i64 (0 : Int)) (D1.es) (Value.string (eS (D1.us) (Int.toNat (D1.j)))))))) ∧ (((D1.sm) + (std.dint (std.mget (Value.string (ByteArray.mk (Array.mk []))) (Value.int IntKind.i64 (0 : Int)) (D1.es) (Value.string (eS (D1.us) (Int.toNat (D1.j))))))) ≤ (9223372036854775807 : Int))) ∧ ((((-9223372036854775808 : Int) ≤ ((D1.j) + (1 : Int))) ∧ (((D1.j) + (1 : Int)) ≤ (9223372036854775807 : Int))) ∧ (∃ (e0 : RtB), (([(Filler.dl ps), (Filler.val (Value.int IntKind.i64 (e0.i))), (Filler.val (Value.complex Go.FloatKind.f64 (e0.x0) (e0.y0))), (Filler.val (Value.complex Go.FloatKind.f64 (e0.x1) (e0.y1))), (Filler.val (Value.int IntKind.i64 (e0.sm))), (Filler.dl (e0.us)), (Filler.dl (e0.us)), (Filler.val (Value.int IntKind.i64 (e0.m))), (Filler.val (Value.int IntKind.i64 (e0.j))), (Filler.val (Value.int IntKind.i64 (e0.s))), (Filler.val (Value.int IntKind.i64 (e0.p))), (Filler.val (Value.int IntKind.i64 (e0.a))), (Filler.val (Value.bool (e0.h))), (Filler.me (e0.es)), (Filler.val (Value.int IntKind.i64 (e0.s))), (Filler.val (Value.int IntKind.i64 (e0.p))), (Filler.val (Value.int IntKind.i64 (e0.a))), (Filler.val (Value.bool (e0.h))), (Filler.me (e0.es)), (Filler.val (Value.int IntKind.i64 (e0.k))), (Filler.val (Value.int IntKind.i64 (e0.w))), (Filler.val (Value.int IntKind.i64 (e0.n)))] = [(Filler.dl ps), (Filler.val (Value.int IntKind.i64 (D1.i))), (Filler.val (Value.complex Go.FloatKind.f64 (D1.x0) (D1.y0))), (Filler.val (Value.complex Go.FloatKind.f64 (D1.x1) (D1.y1))), (Filler.val (Value.int IntKind.i64 ((D1.sm) + (std.dint (std.mget (Value.string (ByteArray.mk (Array.mk []))) (Value.int IntKind.i64 (0 : Int)) (D1.es) (Value.string (eS (D1.us) (Int.toNat (D1.j))))))))), (Filler.dl (D1.us)), (Filler.dl (D1.us)), (Filler.val (Value.int IntKind.i64 (D1.m))), (Filler.val (Value.int IntKind.i64 ((D1.j) + (1 : Int)))), (Filler.val (Value.int IntKind.i64 (D1.s))), (Filler.val (Value.int IntKind.i64 (D1.p))), (Filler.val (Value.int IntKind.i64 (D1.a))), (Filler.val (Value.bool (D1.h))), (Filler.me (D1.es)), (Filler.val (Value.int IntKind.i64 (D1.s))), (Filler.val (Value.int IntKind.i64 (D1.p))), (Filler.val (Value.int IntKind.i64 (D1.a))), (Filler.val (Value.bool (D1.h))), (Filler.me (D1.es)), (Filler.val (Value.int IntKind.i64 (D1.k))), (Filler.val (Value.int IntKind.i64 (D1.w))), (Filler.val (Value.int IntKind.i64 (D1.n)))]) ∧ ((Nat.le (Nat.succ (q e0)) (q D1)) ∧ (([(Value.int IntKind.i64 (e0.i))] = [(Value.int IntKind.i64 (D0.i))]) ∧ (J e0))))))))))))))) ∧ (((decide ((0 : Int) < (D1.j))) = false) → (True ∧ (((!((std.dint (std.mget (Value.string (ByteArray.mk (Array.mk []))) (Value.int IntKind.i64 (0 : Int)) (D1.es) (Value.string (eS (D1.us) (Int.toNat (D1.j)))))) == (std.dint (std.mget (Value.string (ByteArray.mk (Array.mk []))) (Value.int IntKind.i64 (0 : Int)) (D1.es) (Value.string (eS (D1.us) (Int.toNat (D1.j)))))))) = false) ∧ ((((Option.some (Value.func (Go.Fn.yield 0) (Array.mk [(Value.int IntKind.i64 (std.dint (std.mget (Value.string (ByteArray.mk (Array.mk []))) (Value.int IntKind.i64 (0 : Int)) (D1.es) (Value.string (eS (D1.us) (Int.toNat (D1.j)))))))]) (Array.mk []))) = (Option.some (Value.func (Go.Fn.yield 0) (Array.mk [(Value.int IntKind.i64 (std.dint (std.mget (Value.string (ByteArray.mk (Array.mk []))) (Value.int IntKind.i64 (0 : Int)) (D1.es) (Value.string (eS (D1.us) (Int.toNat (D1.j)))))))]) (Array.mk [])))) ∧ ((Option.some (Value.func (Go.Fn.yield 0) (Array.mk [(Value.int IntKind.i64 (std.dint (std.mget (Value.string (ByteArray.mk (Array.mk []))) (Value.int IntKind.i64 (0 : Int)) (D1.es) (Value.string (eS (D1.us) (Int.toNat (D1.j)))))))]) (Array.mk []))) = (Option.some (Value.func (Go.Fn.yield 0) (Array.mk [(Value.int IntKind.i64 (std.dint (std.mget (Value.string (ByteArray.mk (Array.mk []))) (Value.int IntKind.i64 (0 : Int)) (D1.es) (Value.string (eS (D1.us) (Int.toNat (D1.j)))))))]) (Array.mk []))))) ∧ (True ∧ ((((-9223372036854775808 : Int) ≤ ((D1.sm) + (std.dint (std.mget (Value.string (ByteArray.mk (Array.mk []))) (Value.int IntKind.i64 (0 : Int)) (D1.es) (Value.string (eS (D1.us) (Int.toNat (D1.j)))))))) ∧ (((D1.sm) + (std.dint (std.mget (Value.string (ByteArray.mk (Array.mk []))) (Value.int IntKind.i64 (0 : Int)) (D1.es) (Value.string (eS (D1.us) (Int.toNat (D1.j))))))) ≤ (9223372036854775807 : Int))) ∧ ((((-9223372036854775808 : Int) ≤ ((D1.j) + (1 : Int))) ∧ (((D1.j) + (1 : Int)) ≤ (9223372036854775807 : Int))) ∧ (∃ (e0 : RtB), (([(Filler.dl ps), (Filler.val (Value.int IntKind.i64 (e0.i))), (Filler.val (Value.complex Go.FloatKind.f64 (e0.x0) (e0.y0))), (Filler.val (Value.complex Go.FloatKind.f64 (e0.x1) (e0.y1))), (Filler.val (Value.int IntKind.i64 (e0.sm))), (Filler.dl (e0.us)), (Filler.dl (e0.us)), (Filler.val (Value.int IntKind.i64 (e0.m))), (Filler.val (Value.int IntKind.i64 (e0.j))), (Filler.val (Value.int IntKind.i64 (e0.s))), (Filler.val (Value.int IntKind.i64 (e0.p))), (Filler.val (Value.int IntKind.i64 (e0.a))), (Filler.val (Value.bool (e0.h))), (Filler.me (e0.es)), (Filler.val (Value.int IntKind.i64 (e0.s))), (Filler.val (Value.int IntKind.i64 (e0.p))), (Filler.val (Value.int IntKind.i64 (e0.a))), (Filler.val (Value.bool (e0.h))), (Filler.me (e0.es)), (Filler.val (Value.int IntKind.i64 (e0.k))), (Filler.val (Value.int IntKind.i64 (e0.w))), (Filler.val (Value.int IntKind.i64 (e0.n)))] = [(Filler.dl ps), (Filler.val (Value.int IntKind.i64 (D1.i))), (Filler.val (Value.complex Go.FloatKind.f64 (D1.x0) (D1.y0))), (Filler.val (Value.complex Go.FloatKind.f64 (D1.x1) (D1.y1))), (Filler.val (Value.int IntKind.i64 ((D1.sm) + (std.dint (std.mget (Value.string (ByteArray.mk (Array.mk []))) (Value.int IntKind.i64 (0 : Int)) (D1.es) (Value.string (eS (D1.us) (Int.toNat (D1.j))))))))), (Filler.dl (D1.us)), (Filler.dl (D1.us)), (Filler.val (Value.int IntKind.i64 (D1.m))), (Filler.val (Value.int IntKind.i64 ((D1.j) + (1 : Int)))), (Filler.val (Value.int IntKind.i64 (D1.s))), (Filler.val (Value.int IntKind.i64 (D1.p))), (Filler.val (Value.int IntKind.i64 (D1.a))), (Filler.val (Value.bool (D1.h))), (Filler.me (D1.es)), (Filler.val (Value.int IntKind.i64 (D1.s))), (Filler.val (Value.int IntKind.i64 (D1.p))), (Filler.val (Value.int IntKind.i64 (D1.a))), (Filler.val (Value.bool (D1.h))), (Filler.me (D1.es)), (Filler.val (Value.int IntKind.i64 (D1.k))), (Filler.val (Value.int IntKind.i64 (D1.w))), (Filler.val (Value.int IntKind.i64 (D1.n)))]) ∧ ((Nat.le (Nat.succ (q e0)) (q D1)) ∧ (([(Value.int IntKind.i64 (e0.i))] = [(Value.int IntKind.i64 (D0.i))]) ∧ (J e0))))))))))))))) ∧ (((decide ((D1.j) < (D1.m))) = false) → (((!((D1.sm) == (D1.a))) = false) ∧ (((((D1.k) == (1 : Int)) = true) → ((((decide ((0 : Int) < (D1.a))) = true) → (((((std.fge (D1.y0) 0) && (!(std.feq (D1.y0) 0))) = true) → ((u.okX (D1.x0) (D1.y0) (D1.x1) (D1.y1)) ∧ ((((u.ri (D1.x0) (D1.y0) (D1.x1) (D1.y1)) = true) → ((((-9223372036854775808 : Int) ≤ ((D1.i) + (1 : Int))) ∧ (((D1.i) + (1 : Int)) ≤ (9223372036854775807 : Int))) ∧ (∃ (e3 : RtA), (([(Filler.dl ps), (Filler.val (Value.int IntKind.i64 (e3.i))), (Filler.val (Value.int IntKind.i64 (e3.s))), (Filler.val (Value.int IntKind.i64 (e3.p))), (Filler.val (Value.int IntKind.i64 (e3.a))), (Filler.val (Value.bool (e3.h))), (Filler.me (e3.es)), (Filler.val (Value.int IntKind.i64 (e3.s))), (Filler.val (Value.int IntKind.i64 (e3.p))), (Filler.val (Value.int IntKind.i64 (e3.a))), (Filler.val (Value.bool (e3.h))), (Filler.me (e3.es))] = [(Filler.dl ps), (Filler.val (Value.int IntKind.i64 ((D1.i) + (1 : Int)))), (Filler.val (Value.int IntKind.i64 (D1.s))), (Filler.val (Value.int IntKind.i64 (D1.p))), (Filler.val (Value.int IntKind.i64 (D1.a))), (Filler.val (Value.bool (D1.h))), (Filler.me (D1.es)), (Filler.val (Value.int IntKind.i64 (D1.s))), (Filler.val (Value.int IntKind.i64 (D1.p))), (Filler.val (Value.int IntKind.i64 (D1.a))), (Filler.val (Value.bool (D1.h))), (Filler.me (D1.es))]) ∧ ((Nat.le (Nat.succ (m e3)) (m d10)) ∧ (I e3)))))) ∧ (((u.ri (D1.x0) (D1.y0) (D1.x1) (D1.y1)) = false) → ([(Value.bool false)] = [(Value.bool true)]))))) ∧ ((((std.fge (D1.y0) 0) && (!(std.feq (D1.y0) 0))) = false) → ((((-9223372036854775808 : Int) ≤ ((D1.i) + (1 : Int))) ∧ (((D1.i) + (1 : Int)) ≤ (9223372036854775807 : Int))) ∧ (∃ (e2 : RtA), (([(Filler.dl ps), (Filler.val (Value.int IntKind.i64 (e2.i))), (Filler.val (Value.int IntKind.i64 (e2.s))), (Filler.val (Value.int IntKind.i64 (e2.p))), (Filler.val (Value.int IntKind.i64 (e2.a))), (Filler.val (Value.bool (e2.h))), (Filler.me (e2.es)), (Filler.val (Value.int IntKind.i64 (e2.s))), (Filler.val (Value.int IntKind.i64 (e2.p))), (Filler.val (Value.int IntKind.i64 (e2.a))), (Filler.val (Value.bool (e2.h))), (Filler.me (e2.es))] = [(Filler.dl ps), (Filler.val (Value.int IntKind.i64 ((D1.i) + (1 : Int)))), (Filler.val (Value.int IntKind.i64 (D1.s))), (Filler.val (Value.int IntKind.i64 (D1.p))), (Filler.val (Value.int IntKind.i64 (D1.a))), (Filler.val (Value.bool (D1.h))), (Filler.me (D1.es)), (Filler.val (Value.int IntKind.i64 (D1.s))), (Filler.val (Value.int IntKind.i64 (D1.p))), (Filler.val (Value.int IntKind.i64 (D1.a))), (Filler.val (Value.bool (D1.h))), (Filler.me (D1.es))]) ∧ ((Nat.le (Nat.succ (m e2)) (m d10)) ∧ (I e2)))))))) ∧ (((decide ((0 : Int) < (D1.a))) = false) → ((((-9223372036854775808 : Int) ≤ ((D1.i) + (1 : Int))) ∧ (((D1.i) + (1 : Int)) ≤ (9223372036854775807 : Int))) ∧ (∃ (e1 : RtA), (([(Filler.dl ps), (Filler.val (Value.int IntKind.i64 (e1.i))), (Filler.val (Value.int IntKind.i64 (e1.s))), (Filler.val (Value.int IntKind.i64 (e1.p))), (Filler.val (Value.int IntKind.i64 (e1.a))), (Filler.val (Value.bool (e1.h))), (Filler.me (e1.es)), (Filler.val (Value.int IntKind.i64 (e1.s))), (Filler.val (Value.int IntKind.i64 (e1.p))), (Filler.val (Value.int IntKind.i64 (e1.a))), (Filler.val (Value.bool (e1.h))), (Filler.me (e1.es))] = [(Filler.dl ps), (Filler.val (Value.int IntKind.i64 ((D1.i) + (1 : Int)))), (Filler.val (Value.int IntKind.i64 (D1.s))), (Filler.val (Value.int IntKind.i64 (D1.p))), (Filler.val (Value.int IntKind.i64 (D1.a))), (Filler.val (Value.bool (D1.h))), (Filler.me (D1.es)), (Filler.val (Value.int IntKind.i64 (D1.s))), (Filler.val (Value.int IntKind.i64 (D1.p))), (Filler.val (Value.int IntKind.i64 (D1.a))), (Filler.val (Value.bool (D1.h))), (Filler.me (D1.es))]) ∧ ((Nat.le (Nat.succ (m e1)) (m d10)) ∧ (I e1)))))))) ∧ ((((D1.k) == (1 : Int)) = false) → (((((D1.k) == (2 : Int)) = true) → ((((decide ((0 : Int) < (D1.a))) = true) → (((((std.fge (D1.y0) 0) && (!(std.feq (D1.y0) 0))) = true) → ((u.okX (D1.x0) (D1.y0) (D1.x1) (D1.y1)) ∧ ((((u.ri (D1.x0) (D1.y0) (D1.x1) (D1.y1)) = true) → ((((-9223372036854775808 : Int) ≤ ((D1.i) + (1 : Int))) ∧ (((D1.i) + (1 : Int)) ≤ (9223372036854775807 : Int))) ∧ (∃ (e4 : RtA), (([(Filler.dl ps), (Filler.val (Value.int IntKind.i64 (e4.i))), (Filler.val (Value.int IntKind.i64 (e4.s))), (Filler.val (Value.int IntKind.i64 (e4.p))), (Filler.val (Value.int IntKind.i64 (e4.a))), (Filler.val (Value.bool (e4.h))), (Filler.me (e4.es)), (Filler.val (Value.int IntKind.i64 (e4.s))), (Filler.val (Value.int IntKind.i64 (e4.p))), (Filler.val (Value.int IntKind.i64 (e4.a))), (Filler.val (Value.bool (e4.h))), (Filler.me (e4.es))] = [(Filler.dl ps), (Filler.val (Value.int IntKind.i64 ((D1.i) + (1 : Int)))), (Filler.val (Value.int IntKind.i64 (D1.s))), (Filler.val (Value.int IntKind.i64 (D1.p))), (Filler.val (Value.int IntKind.i64 (D1.a))), (Filler.val (Value.bool (D1.h))), (Filler.me (D1.es)), (Filler.val (Value.int IntKind.i64 (D1.s))), (Filler.val (Value.int IntKind.i64 (D1.p))), (Filler.val (Value.int IntKind.i64 (D1.a))), (Filler.val (Value.bool (D1.h))), (Filler.me (D1.es))]) ∧ ((Nat.le (Nat.succ (m e4)) (m d10)) ∧ (I e4)))))) ∧ (((u.ri (D1.x0) (D1.y0) (D1.x1) (D1.y1)) = false) → ([(Value.bool false)] = [(Value.bool true)]))))) ∧ ((((std.fge (D1.y0) 0) && (!(std.feq (D1.y0) 0))) = false) → ((((-9223372036854775808 : Int) ≤ ((D1.i) + (1 : Int))) ∧ (((D1.i) + (1 : Int)) ≤ (9223372036854775807 : Int))) ∧ (∃ (e3 : RtA), (([(Filler.dl ps), (Filler.val (Value.int IntKind.i64 (e3.i))), (Filler.val (Value.int IntKind.i64 (e3.s))), (Filler.val (Value.int IntKind.i64 (e3.p))), (Filler.val (Value.int IntKind.i64 (e3.a))), (Filler.val (Value.bool (e3.h))), (Filler.me (e3.es)), (Filler.val (Value.int IntKind.i64 (e3.s))), (Filler.val (Value.int IntKind.i64 (e3.p))), (Filler.val (Value.int IntKind.i64 (e3.a))), (Filler.val (Value.bool (e3.h))), (Filler.me (e3.es))] = [(Filler.dl ps), (Filler.val (Value.int IntKind.i64 ((D1.i) + (1 : Int)))), (Filler.val (Value.int IntKind.i64 (D1.s))), (Filler.val (Value.int IntKind.i64 (D1.p))), (Filler.val (Value.int IntKind.i64 (D1.a))), (Filler.val (Value.bool (D1.h))), (Filler.me (D1.es)), (Filler.val (Value.int IntKind.i64 (D1.s))), (Filler.val (Value.int IntKind.i64 (D1.p))), (Filler.val (Value.int IntKind.i64 (D1.a))), (Filler.val (Value.bool (D1.h))), (Filler.me (D1.es))]) ∧ ((Nat.le (Nat.succ (m e3)) (m d10)) ∧ (I e3)))))))) ∧ (((decide ((0 : Int) < (D1.a))) = false) → ((((-9223372036854775808 : Int) ≤ ((D1.i) + (1 : Int))) ∧ (((D1.i) + (1 : Int)) ≤ (9223372036854775807 : Int))) ∧ (∃ (e2 : RtA), (([(Filler.dl ps), (Filler.val (Value.int IntKind.i64 (e2.i))), (Filler.val (Value.int IntKind.i64 (e2.s))), (Filler.val (Value.int IntKind.i64 (e2.p))), (Filler.val (Value.int IntKind.i64 (e2.a))), (Filler.val (Value.bool (e2.h))), (Filler.me (e2.es)), (Filler.val (Value.int IntKind.i64 (e2.s))), (Filler.val (Value.int IntKind.i64 (e2.p))), (Filler.val (Value.int IntKind.i64 (e2.a))), (Filler.val (Value.bool (e2.h))), (Filler.me (e2.es))] = [(Filler.dl ps), (Filler.val (Value.int IntKind.i64 ((D1.i) + (1 : Int)))), (Filler.val (Value.int IntKind.i64 (D1.s))), (Filler.val (Value.int IntKind.i64 (D1.p))), (Filler.val (Value.int IntKind.i64 (D1.a))), (Filler.val (Value.bool (D1.h))), (Filler.me (D1.es)), (Filler.val (Value.int IntKind.i64 (D1.s))), (Filler.val (Value.int IntKind.i64 (D1.p))), (Filler.val (Value.int IntKind.i64 (D1.a))), (Filler.val (Value.bool (D1.h))), (Filler.me (D1.es))]) ∧ ((Nat.le (Nat.succ (m e2)) (m d10)) ∧ (I e2)))))))) ∧ ((((D1.k) == (2 : Int)) = false) → ((((-9223372036854775808 : Int) ≤ ((D1.i) + (1 : Int))) ∧ (((D1.i) + (1 : Int)) ≤ (9223372036854775807 : Int))) ∧ (∃ (e1 : RtA), (([(Filler.dl ps), (Filler.val (Value.int IntKind.i64 (e1.i))), (Filler.val (Value.int IntKind.i64 (e1.s))), (Filler.val (Value.int IntKind.i64 (e1.p))), (Filler.val (Value.int IntKind.i64 (e1.a))), (Filler.val (Value.bool (e1.h))), (Filler.me (e1.es)), (Filler.val (Value.int IntKind.i64 (e1.s))), (Filler.val (Value.int IntKind.i64 (e1.p))), (Filler.val (Value.int IntKind.i64 (e1.a))), (Filler.val (Value.bool (e1.h))), (Filler.me (e1.es))] = [(Filler.dl ps), (Filler.val (Value.int IntKind.i64 ((D1.i) + (1 : Int)))), (Filler.val (Value.int IntKind.i64 (D1.s))), (Filler.val (Value.int IntKind.i64 (D1.p))), (Filler.val (Value.int IntKind.i64 (D1.a))), (Filler.val (Value.bool (D1.h))), (Filler.me (D1.es)), (Filler.val (Value.int IntKind.i64 (D1.s))), (Filler.val (Value.int IntKind.i64 (D1.p))), (Filler.val (Value.int IntKind.i64 (D1.a))), (Filler.val (Value.bool (D1.h))), (Filler.me (D1.es))]) ∧ ((Nat.le (Nat.succ (m e1)) (m d10)) ∧ (I e1)))))))))))))
def rtLp (u : RtF) (ps : List Value) (I : RtA → Prop) (m : RtA → Nat) (J : RtB → Prop) (q : RtB → Nat) (d10 : RtA) (i0 : Int) (X0 : Filler) (X1 : Filler) (sm0 : Int) (us0 : List Value) (us1 : List Value) (m0 : Int) (j0 : Int) (s0 : Int) (p0 : Int) (a0 : Int) (h0 : Bool) (es0 : Ents) (s1 : Int) (p1 : Int) (a1 : Int) (h1 : Bool) (es1 : Ents) (k0 : Int) (w0 : Int) (n0 : Int) : Prop :=
  (∃ (D0 : RtB), (([(Filler.dl ps), (Filler.val (Value.int IntKind.i64 (D0.i))), (Filler.val (Value.complex Go.FloatKind.f64 (D0.x0) (D0.y0))), (Filler.val (Value.complex Go.FloatKind.f64 (D0.x1) (D0.y1))), (Filler.val (Value.int IntKind.i64 (D0.sm))), (Filler.dl (D0.us)), (Filler.dl (D0.us)), (Filler.val (Value.int IntKind.i64 (D0.m))), (Filler.val (Value.int IntKind.i64 (D0.j))), (Filler.val (Value.int IntKind.i64 (D0.s))), (Filler.val (Value.int IntKind.i64 (D0.p))), (Filler.val (Value.int IntKind.i64 (D0.a))), (Filler.val (Value.bool (D0.h))), (Filler.me (D0.es)), (Filler.val (Value.int IntKind.i64 (D0.s))), (Filler.val (Value.int IntKind.i64 (D0.p))), (Filler.val (Value.int IntKind.i64 (D0.a))), (Filler.val (Value.bool (D0.h))), (Filler.me (D0.es)), (Filler.val (Value.int IntKind.i64 (D0.k))), (Filler.val (Value.int IntKind.i64 (D0.w))), (Filler.val (Value.int IntKind.i64 (D0.n)))] = [(Filler.dl ps), (Filler.val (Value.int IntKind.i64 i0)), X0, X1, (Filler.val (Value.int IntKind.i64 sm0)), (Filler.dl us0), (Filler.dl us1), (Filler.val (Value.int IntKind.i64 m0)), (Filler.val (Value.int IntKind.i64 j0)), (Filler.val (Value.int IntKind.i64 s0)), (Filler.val (Value.int IntKind.i64 p0)), (Filler.val (Value.int IntKind.i64 a0)), (Filler.val (Value.bool h0)), (Filler.me es0), (Filler.val (Value.int IntKind.i64 s1)), (Filler.val (Value.int IntKind.i64 p1)), (Filler.val (Value.int IntKind.i64 a1)), (Filler.val (Value.bool h1)), (Filler.me es1), (Filler.val (Value.int IntKind.i64 k0)), (Filler.val (Value.int IntKind.i64 w0)), (Filler.val (Value.int IntKind.i64 n0))]) ∧ ((J D0) ∧ (∀ (D1 : RtB), ((J D1) → (rtBody u ps I m J q d10 D0 D1))))))
def rt_vc_M (g : KvF) (u : RtF) (ps : List Value) (I : RtA → Prop) (m : RtA → Nat) (J : RtB → Prop) (q : RtB → Nat) : Prop :=
  (∃ (d9 : RtA), (([(Filler.dl ps), (Filler.val (Value.int IntKind.i64 (d9.i))), (Filler.val (Value.int IntKind.i64 (d9.s))), (Filler.val (Value.int IntKind.i64 (d9.p))), (Filler.val (Value.int IntKind.i64 (d9.a))), (Filler.val (Value.bool (d9.h))), (Filler.me (d9.es)), (Filler.val (Value.int IntKind.i64 (d9.s))), (Filler.val (Value.int IntKind.i64 (d9.p))), (Filler.val (Value.int IntKind.i64 (d9.a))), (Filler.val (Value.bool (d9.h))), (Filler.me (d9.es))] = [(Filler.dl ps), (Filler.val (Value.int IntKind.i64 (0 : Int))), (Filler.val (Value.int IntKind.i64 (0 : Int))), (Filler.val (Value.int IntKind.i64 (0 : Int))), (Filler.val (Value.int IntKind.i64 (0 : Int))), (Filler.val (Value.bool false)), (Filler.me []), (Filler.val (Value.int IntKind.i64 (0 : Int))), (Filler.val (Value.int IntKind.i64 (0 : Int))), (Filler.val (Value.int IntKind.i64 (0 : Int))), (Filler.val (Value.bool false)), (Filler.me [])]) ∧ ((I d9) ∧ (∀ (d10 : RtA), ((I d10) → ((((decide ((d10.i) < ((List.length ps) : Int))) = true) → ((((decide ((d10.i) < (40 : Int))) = true) → ((((0 : Int) ≤ (d10.i)) ∧ ((d10.i) < ((List.length ps) : Int))) ∧ (((((-9223372036854775808 : Int) ≤ (std.dint (std.fld (std.get zAsk ps (Int.toNat (d10.i))) 1))) ∧ ((std.dint (std.fld (std.get zAsk ps (Int.toNat (d10.i))) 1)) ≤ (9223372036854775807 : Int))) ∧ (((-1000000000000 : Int) ≤ (0 : Int)) ∧ (((0 : Int) ≤ (4 : Int)) ∧ ((4 : Int) ≤ (2000000000000 : Int))))) ∧ ((((0 : Int) ≤ (g.wi (std.dint (std.fld (std.get zAsk ps (Int.toNat (d10.i))) 1)) (0 : Int) (4 : Int))) ∧ ((g.wi (std.dint (std.fld (std.get zAsk ps (Int.toNat (d10.i))) 1)) (0 : Int) (4 : Int)) < ((List.length [(Value.string (ByteArray.mk (Array.mk [(97 : UInt8)]))), (Value.string (ByteArray.mk (Array.mk [(98 : UInt8)]))), (Value.string (ByteArray.mk (Array.mk [(99 : UInt8)]))), (Value.string (ByteArray.mk (Array.mk []))), (Value.string (ByteArray.mk (Array.mk [(111 : UInt8), (110 : UInt8), (101 : UInt8), (32 : UInt8), (116 : UInt8), (104 : UInt8), (97 : UInt8), (116 : UInt8), (32 : UInt8), (105 : UInt8), (115 : UInt8), (32 : UInt8), (116 : UInt8), (111 : UInt8), (111 : UInt8), (32 : UInt8), (108 : UInt8), (111 : UInt8), (110 : UInt8), (103 : UInt8)])))]) : Int))) ∧ (((((0 : Int) ≤ (d10.s)) ∧ ((d10.s) ≤ (1073741824 : Int))) ∧ ((((0 : Int) ≤ (d10.p)) ∧ ((d10.p) ≤ (1073741824 : Int))) ∧ ((((0 : Int) ≤ (d10.a)) ∧ ((d10.a) ≤ (1073741824 : Int))) ∧ (((d10.s) + (d10.p)) ≤ (1073741824 : Int))))) ∧ (True ∧ (((((std.dint (std.fld (std.get zAsk ps (Int.toNat (d10.i))) 0)) == (1 : Int)) = true) → ((u.okM (rtUsr g ps (d10.i)) (std.dint (std.fld (std.get zAsk ps (Int.toNat (d10.i))) 2)) (d10.s) (d10.p) (d10.a) (d10.es)) ∧ ((u.okM (rtUsr g ps (d10.i)) (std.dint (std.fld (std.get zAsk ps (Int.toNat (d10.i))) 2)) (d10.s) (d10.p) (d10.a) (d10.es)) ∧ (True ∧ ((((0 : Int) ≤ (d10.p)) ∧ ((d10.p) ≤ (1073741824 : Int))) ∧ (((((0 : Int) ≤ (d10.s)) ∧ ((d10.s) ≤ (1073741824 : Int))) ∧ ((((0 : Int) ≤ (u.mP (rtUsr g ps (d10.i)) (std.dint (std.fld (std.get zAsk ps (Int.toNat (d10.i))) 2)) (d10.s) (d10.p) (d10.a) (d10.h) (d10.es))) ∧ ((u.mP (rtUsr g ps (d10.i)) (std.dint (std.fld (std.get zAsk ps (Int.toNat (d10.i))) 2)) (d10.s) (d10.p) (d10.a) (d10.h) (d10.es)) ≤ (1073741824 : Int))) ∧ ((((0 : Int) ≤ (u.mA (rtUsr g ps (d10.i)) (std.dint (std.fld (std.get zAsk ps (Int.toNat (d10.i))) 2)) (d10.s) (d10.p) (d10.a) (d10.h) (d10.es))) ∧ ((u.mA (rtUsr g ps (d10.i)) (std.dint (std.fld (std.get zAsk ps (Int.toNat (d10.i))) 2)) (d10.s) (d10.p) (d10.a) (d10.h) (d10.es)) ≤ (1073741824 : Int))) ∧ (((d10.s) + (u.mP (rtUsr g ps (d10.i)) (std.dint (std.fld (std.get zAsk ps (Int.toNat (d10.i))) 2)) (d10.s) (d10.p) (d10.a) (d10.h) (d10.es))) ≤ (1073741824 : Int))))) ∧ (((!((u.mN (rtUsr g ps (d10.i)) (std.dint (std.fld (std.get zAsk ps (Int.toNat (d10.i))) 2)) (d10.s) (d10.p) (d10.a) (d10.h) (d10.es)) == (u.mN (rtUsr g ps (d10.i)) (std.dint (std.fld (std.get zAsk ps (Int.toNat (d10.i))) 2)) (d10.s) (d10.p) (d10.a) (d10.h) (d10.es)))) = false) ∧ (((!((u.mE (rtUsr g ps (d10.i)) (std.dint (std.fld (std.get zAsk ps (Int.toNat (d10.i))) 2)) (d10.s) (d10.p) (d10.a) (d10.h) (d10.es)) == (u.mE (rtUsr g ps (d10.i)) (std.dint (std.fld (std.get zAsk ps (Int.toNat (d10.i))) 2)) (d10.s) (d10.p) (d10.a) (d10.h) (d10.es)))) = false) ∧ ((((-9223372036854775808 : Int) ≤ ((d10.s) + (u.mP (rtUsr g ps (d10.i)) (std.dint (std.fld (std.get zAsk ps (Int.toNat (d10.i))) 2)) (d10.s) (d10.p) (d10.a) (d10.h) (d10.es)))) ∧ (((d10.s) + (u.mP (rtUsr g ps (d10.i)) (std.dint (std.fld (std.get zAsk ps (Int.toNat (d10.i))) 2)) (d10.s) (d10.p) (d10.a) (d10.h) (d10.es))) ≤ (9223372036854775807 : Int))) ∧ (((!((std.feq (std.fof ((d10.s) + (u.mP (rtUsr g ps (d10.i)) (std.dint (std.fld (std.get zAsk ps (Int.toNat (d10.i))) 2)) (d10.s) (d10.p) (d10.a) (d10.h) (d10.es)))) (std.fof ((d10.s) + (u.mP (rtUsr g ps (d10.i)) (std.dint (std.fld (std.get zAsk ps (Int.toNat (d10.i))) 2)) (d10.s) (d10.p) (d10.a) (d10.h) (d10.es))))) && (std.feq (std.fof (u.mA (rtUsr g ps (d10.i)) (std.dint (std.fld (std.get zAsk ps (Int.toNat (d10.i))) 2)) (d10.s) (d10.p) (d10.a) (d10.h) (d10.es))) (std.fof (u.mA (rtUsr g ps (d10.i)) (std.dint (std.fld (std.get zAsk ps (Int.toNat (d10.i))) 2)) (d10.s) (d10.p) (d10.a) (d10.h) (d10.es)))))) = false) ∧ (True ∧ (((!((u.mP (rtUsr g ps (d10.i)) (std.dint (std.fld (std.get zAsk ps (Int.toNat (d10.i))) 2)) (d10.s) (d10.p) (d10.a) (d10.h) (d10.es)) == (u.mP (rtUsr g ps (d10.i)) (std.dint (std.fld (std.get zAsk ps (Int.toNat (d10.i))) 2)) (d10.s) (d10.p) (d10.a) (d10.h) (d10.es)))) = false) ∧ (True ∧ ((((d10.h) = true) → ((((d10.h) = true) → ((u.okS (u.mM (rtUsr g ps (d10.i)) (std.dint (std.fld (std.get zAsk ps (Int.toNat (d10.i))) 2)) (d10.s) (d10.p) (d10.a) (d10.h) (d10.es))) ∧ (((!(((List.length (u.srt (u.mM (rtUsr g ps (d10.i)) (std.dint (std.fld (std.get zAsk ps (Int.toNat (d10.i))) 2)) (d10.s) (d10.p) (d10.a) (d10.h) (d10.es)))) : Int) == ((List.length (u.mM (rtUsr g ps (d10.i)) (std.dint (std.fld (std.get zAsk ps (Int.toNat (d10.i))) 2)) (d10.s) (d10.p) (d10.a) (d10.h) (d10.es))) : Int))) = false) ∧ ((((Option.some (Value.func (Go.Fn.yield 0) (Array.mk [(Value.int IntKind.i64 (u.mP (rtUsr g ps (d10.i)) (std.dint (std.fld (std.get zAsk ps (Int.toNat (d10.i))) 2)) (d10.s) (d10.p) (d10.a) (d10.h) (d10.es)))]) (Array.mk []))) = (Option.some (Value.func (Go.Fn.yield 0) (Array.mk [(Value.int IntKind.i64 (u.mP (rtUsr g ps (d10.i)) (std.dint (std.fld (std.get zAsk ps (Int.toNat (d10.i))) 2)) (d10.s) (d10.p) (d10.a) (d10.h) (d10.es)))]) (Array.mk [])))) ∧ ((Option.some (Value.func (Go.Fn.yield 0) (Array.mk [(Value.int IntKind.i64 (u.mP (rtUsr g ps (d10.i)) (std.dint (std.fld (std.get zAsk ps (Int.toNat (d10.i))) 2)) (d10.s) (d10.p) (d10.a) (d10.h) (d10.es)))]) (Array.mk []))) = (Option.some (Value.func (Go.Fn.yield 0) (Array.mk [(Value.int IntKind.i64 (u.mP (rtUsr g ps (d10.i)) (std.dint (std.fld (std.get zAsk ps (Int.toNat (d10.i))) 2)) (d10.s) (d10.p) (d10.a) (d10.h) (d10.es)))]) (Array.mk []))))) ∧ ((((d10.h) = true) ∧ ((d10.h) = true)) ∧ ((u.okS (u.mM (rtUsr g ps (d10.i)) (std.dint (std.fld (std.get zAsk ps (Int.toNat (d10.i))) 2)) (d10.s) (d10.p) (d10.a) (d10.h) (d10.es))) ∧ (rtLp u ps I m J q d10 (d10.i) (Filler.val (Value.complex Go.FloatKind.f64 (std.fof ((d10.s) + (d10.p))) (std.fof (d10.a)))) (Filler.val (Value.complex Go.FloatKind.f64 (std.fof ((d10.s) + (u.mP (rtUsr g ps (d10.i)) (std.dint (std.fld (std.get zAsk ps (Int.toNat (d10.i))) 2)) (d10.s) (d10.p) (d10.a) (d10.h) (d10.es)))) (std.fof (u.mA (rtUsr g ps (d10.i)) (std.dint (std.fld (std.get zAsk ps (Int.toNat (d10.i))) 2)) (d10.s) (d10.p) (d10.a) (d10.h) (d10.es))))) (0 : Int) (u.srt (u.mM (rtUsr g ps (d10.i)) (std.dint (std.fld (std.get zAsk ps (Int.toNat (d10.i))) 2)) (d10.s) (d10.p) (d10.a) (d10.h) (d10.es))) (u.srt (u.mM (rtUsr g ps (d10.i)) (std.dint (std.fld (std.get zAsk ps (Int.toNat (d10.i))) 2)) (d10.s) (d10.p) (d10.a) (d10.h) (d10.es))) ((List.length (u.srt (u.mM (rtUsr g ps (d10.i)) (std.dint (std.fld (std.get zAsk ps (Int.toNat (d10.i))) 2)) (d10.s) (d10.p) (d10.a) (d10.h) (d10.es)))) : Int) (0 : Int) (d10.s) (u.mP (rtUsr g ps (d10.i)) (std.dint (std.fld (std.get zAsk ps (Int.toNat (d10.i))) 2)) (d10.s) (d10.p) (d10.a) (d10.h) (d10.es)) (u.mA (rtUsr g ps (d10.i)) (std.dint (std.fld (std.get zAsk ps (Int.toNat (d10.i))) 2)) (d10.s) (d10.p) (d10.a) (d10.h) (d10.es)) (d10.h) (u.mM (rtUsr g ps (d10.i)) (std.dint (std.fld (std.get zAsk ps (Int.toNat (d10.i))) 2)) (d10.s) (d10.p) (d10.a) (d10.h) (d10.es)) (d10.s) (u.mP (rtUsr g ps (d10.i)) (std.dint (std.fld (std.get zAsk ps (Int.toNat (d10.i))) 2)) (d10.s) (d10.p) (d10.a) (d10.h) (d10.es)) (u.mA (rtUsr g ps (d10.i)) (std.dint (std.fld (std.get zAsk ps (Int.toNat (d10.i))) 2)) (d10.s) (d10.p) (d10.a) (d10.h) (d10.es)) (d10.h) (u.mM (rtUsr g ps (d10.i)) (std.dint (std.fld (std.get zAsk ps (Int.toNat (d10.i))) 2)) (d10.s) (d10.p) (d10.a) (d10.h) (d10.es)) (std.dint (std.fld (std.get zAsk ps (Int.toNat (d10.i))) 0)) (std.dint (std.fld (std.get zAsk ps (Int.toNat (d10.i))) 1)) (std.dint (std.fld (std.get zAsk ps (Int.toNat (d10.i))) 2))))))))) ∧ (((d10.h) = false) → ((((Option.some (Value.func (Go.Fn.yield 0) (Array.mk [(Value.int IntKind.i64 (u.mP (rtUsr g ps (d10.i)) (std.dint (std.fld (std.get zAsk ps (Int.toNat (d10.i))) 2)) (d10.s) (d10.p) (d10.a) (d10.h) (d10.es)))]) (Array.mk []))) = (Option.some (Value.func (Go.Fn.yield 0) (Array.mk [(Value.int IntKind.i64 (u.mP (rtUsr g ps (d10.i)) (std.dint (std.fld (std.get zAsk ps (Int.toNat (d10.i))) 2)) (d10.s) (d10.p) (d10.a) (d10.h) (d10.es)))]) (Array.mk [])))) ∧ ((Option.some (Value.func (Go.Fn.yield 0) (Array.mk [(Value.int IntKind.i64 (u.mP (rtUsr g ps (d10.i)) (std.dint (std.fld (std.get zAsk ps (Int.toNat (d10.i))) 2)) (d10.s) (d10.p) (d10.a) (d10.h) (d10.es)))]) (Array.mk []))) = (Option.some (Value.func (Go.Fn.yield 0) (Array.mk [(Value.int IntKind.i64 (u.mP (rtUsr g ps (d10.i)) (std.dint (std.fld (std.get zAsk ps (Int.toNat (d10.i))) 2)) (d10.s) (d10.p) (d10.a) (d10.h) (d10.es)))]) (Array.mk []))))) ∧ ((((d10.h) = false) ∧ ((d10.h) = false)) ∧ ([(Value.bool false)] = [(Value.bool true)])))))) ∧ (((d10.h) = false) → ((((d10.h) = true) → ((((Option.some (Value.func (Go.Fn.yield 0) (Array.mk [(Value.int IntKind.i64 (u.mP (rtUsr g ps (d10.i)) (std.dint (std.fld (std.get zAsk ps (Int.toNat (d10.i))) 2)) (d10.s) (d10.p) (d10.a) (d10.h) (d10.es)))]) (Array.mk []))) = (Option.some (Value.func (Go.Fn.yield 0) (Array.mk [(Value.int IntKind.i64 (u.mP (rtUsr g ps (d10.i)) (std.dint (std.fld (std.get zAsk ps (Int.toNat (d10.i))) 2)) (d10.s) (d10.p) (d10.a) (d10.h) (d10.es)))]) (Array.mk [])))) ∧ ((Option.some (Value.func (Go.Fn.yield 0) (Array.mk [(Value.int IntKind.i64 (u.mP (rtUsr g ps (d10.i)) (std.dint (std.fld (std.get zAsk ps (Int.toNat (d10.i))) 2)) (d10.s) (d10.p) (d10.a) (d10.h) (d10.es)))]) (Array.mk []))) = (Option.some (Value.func (Go.Fn.yield 0) (Array.mk [(Value.int IntKind.i64 (u.mP (rtUsr g ps (d10.i)) (std.dint (std.fld (std.get zAsk ps (Int.toNat (d10.i))) 2)) (d10.s) (d10.p) (d10.a) (d10.h) (d10.es)))]) (Array.mk []))))) ∧ ((((d10.h) = true) ∧ ((d10.h) = true)) ∧ ([(Value.bool false)] = [(Value.bool true)])))) ∧ (((d10.h) = false) → ((u.okS (u.mM (rtUsr g ps (d10.i)) (std.dint (std.fld (std.get zAsk ps (Int.toNat (d10.i))) 2)) (d10.s) (d10.p) (d10.a) (d10.h) (d10.es))) ∧ (((!(((List.length (u.srt (u.mM (rtUsr g ps (d10.i)) (std.dint (std.fld (std.get zAsk ps (Int.toNat (d10.i))) 2)) (d10.s) (d10.p) (d10.a) (d10.h) (d10.es)))) : Int) == ((List.length (u.mM (rtUsr g ps (d10.i)) (std.dint (std.fld (std.get zAsk ps (Int.toNat (d10.i))) 2)) (d10.s) (d10.p) (d10.a) (d10.h) (d10.es))) : Int))) = false) ∧ ((((Option.some (Value.func (Go.Fn.yield 0) (Array.mk [(Value.int IntKind.i64 (u.mP (rtUsr g ps (d10.i)) (std.dint (std.fld (std.get zAsk ps (Int.toNat (d10.i))) 2)) (d10.s) (d10.p) (d10.a) (d10.h) (d10.es)))]) (Array.mk []))) = (Option.some (Value.func (Go.Fn.yield 0) (Array.mk [(Value.int IntKind.i64 (u.mP (rtUsr g ps (d10.i)) (std.dint (std.fld (std.get zAsk ps (Int.toNat (d10.i))) 2)) (d10.s) (d10.p) (d10.a) (d10.h) (d10.es)))]) (Array.mk [])))) ∧ ((Option.some (Value.func (Go.Fn.yield 0) (Array.mk [(Value.int IntKind.i64 (u.mP (rtUsr g ps (d10.i)) (std.dint (std.fld (std.get zAsk ps (Int.toNat (d10.i))) 2)) (d10.s) (d10.p) (d10.a) (d10.h) (d10.es)))]) (Array.mk []))) = (Option.some (Value.func (Go.Fn.yield 0) (Array.mk [(Value.int IntKind.i64 (u.mP (rtUsr g ps (d10.i)) (std.dint (std.fld (std.get zAsk ps (Int.toNat (d10.i))) 2)) (d10.s) (d10.p) (d10.a) (d10.h) (d10.es)))]) (Array.mk []))))) ∧ ((((d10.h) = false) ∧ ((d10.h) = false)) ∧ ((u.okS (u.mM (rtUsr g ps (d10.i)) (std.dint (std.fld (std.get zAsk ps (Int.toNat (d10.i))) 2)) (d10.s) (d10.p) (d10.a) (d10.h) (d10.es))) ∧ (rtLp u ps I m J q d10 (d10.i) (Filler.val (Value.complex Go.FloatKind.f64 (std.fof ((d10.s) + (d10.p))) (std.fof (d10.a)))) (Filler.val (Value.complex Go.FloatKind.f64 (std.fof ((d10.s) + (u.mP (rtUsr g ps (d10.i)) (std.dint (std.fld (std.get zAsk ps (Int.toNat (d10.i))) 2)) (d10.s) (d10.p) (d10.a) (d10.h) (d10.es)))) (std.fof (u.mA (rtUsr g ps (d10.i)) (std.dint (std.fld (std.get zAsk ps (Int.toNat (d10.i))) 2)) (d10.s) (d10.p) (d10.a) (d10.h) (d10.es))))) (0 : Int) (u.srt (u.mM (rtUsr g ps (d10.i)) (std.dint (std.fld (std.get zAsk ps (Int.toNat (d10.i))) 2)) (d10.s) (d10.p) (d10.a) (d10.h) (d10.es))) (u.srt (u.mM (rtUsr g ps (d10.i)) (std.dint (std.fld (std.get zAsk ps (Int.toNat (d10.i))) 2)) (d10.s) (d10.p) (d10.a) (d10.h) (d10.es))) ((List.length (u.srt (u.mM (rtUsr g ps (d10.i)) (std.dint (std.fld (std.get zAsk ps (Int.toNat (d10.i))) 2)) (d10.s) (d10.p) (d10.a) (d10.h) (d10.es)))) : Int) (0 : Int) (d10.s) (u.mP (rtUsr g ps (d10.i)) (std.dint (std.fld (std.get zAsk ps (Int.toNat (d10.i))) 2)) (d10.s) (d10.p) (d10.a) (d10.h) (d10.es)) (u.mA (rtUsr g ps (d10.i)) (std.dint (std.fld (std.get zAsk ps (Int.toNat (d10.i))) 2)) (d10.s) (d10.p) (d10.a) (d10.h) (d10.es)) (d10.h) (u.mM (rtUsr g ps (d10.i)) (std.dint (std.fld (std.get zAsk ps (Int.toNat (d10.i))) 2)) (d10.s) (d10.p) (d10.a) (d10.h) (d10.es)) (d10.s) (u.mP (rtUsr g ps (d10.i)) (std.dint (std.fld (std.get zAsk ps (Int.toNat (d10.i))) 2)) (d10.s) (d10.p) (d10.a) (d10.h) (d10.es)) (u.mA (rtUsr g ps (d10.i)) (std.dint (std.fld (std.get zAsk ps (Int.toNat (d10.i))) 2)) (d10.s) (d10.p) (d10.a) (d10.h) (d10.es)) (d10.h) (u.mM (rtUsr g ps (d10.i)) (std.dint (std.fld (std.get zAsk ps (Int.toNat (d10.i))) 2)) (d10.s) (d10.p) (d10.a) (d10.h) (d10.es)) (std.dint (std.fld (std.get zAsk ps (Int.toNat (d10.i))) 0)) (std.dint (std.fld (std.get zAsk ps (Int.toNat (d10.i))) 1)) (std.dint (std.fld (std.get zAsk ps (Int.toNat (d10.i))) 2))))))))))))))))))))))))) ∧ ((((std.dint (std.fld (std.get zAsk ps (Int.toNat (d10.i))) 0)) == (1 : Int)) = false) → (((((std.dint (std.fld (std.get zAsk ps (Int.toNat (d10.i))) 0)) == (2 : Int)) = true) → ((u.okM (rtUsr g ps (d10.i)) (std.dint (std.fld (std.get zAsk ps (Int.toNat (d10.i))) 2)) (d10.s) (d10.p) (d10.a) (d10.es)) ∧ ((u.okM (rtUsr g ps (d10.i)) (std.dint (std.fld (std.get zAsk ps (Int.toNat (d10.i))) 2)) (d10.s) (d10.p) (d10.a) (d10.es)) ∧ (True ∧ ((((0 : Int) ≤ (d10.p)) ∧ ((d10.p) ≤ (1073741824 : Int))) ∧ (((((0 : Int) ≤ (d10.s)) ∧ ((d10.s) ≤ (1073741824 : Int))) ∧ ((((0 : Int) ≤ (u.rP (rtUsr g ps (d10.i)) (std.dint (std.fld (std.get zAsk ps (Int.toNat (d10.i))) 2)) (d10.s) (d10.p) (d10.a) (d10.h) (d10.es))) ∧ ((u.rP (rtUsr g ps (d10.i)) (std.dint (std.fld (std.get zAsk ps (Int.toNat (d10.i))) 2)) (d10.s) (d10.p) (d10.a) (d10.h) (d10.es)) ≤ (1073741824 : Int))) ∧ ((((0 : Int) ≤ (u.rA (rtUsr g ps (d10.i)) (std.dint (std.fld (std.get zAsk ps (Int.toNat (d10.i))) 2)) (d10.s) (d10.p) (d10.a) (d10.h) (d10.es))) ∧ ((u.rA (rtUsr g ps (d10.i)) (std.dint (std.fld (std.get zAsk ps (Int.toNat (d10.i))) 2)) (d10.s) (d10.p) (d10.a) (d10.h) (d10.es)) ≤ (1073741824 : Int))) ∧ (((d10.s) + (u.rP (rtUsr g ps (d10.i)) (std.dint (std.fld (std.get zAsk ps (Int.toNat (d10.i))) 2)) (d10.s) (d10.p) (d10.a) (d10.h) (d10.es))) ≤ (1073741824 : Int))))) ∧ (((!((u.rN (rtUsr g ps (d10.i)) (std.dint (std.fld (std.get zAsk ps (Int.toNat (d10.i))) 2)) (d10.s) (d10.p) (d10.a) (d10.h) (d10.es)) == (u.rN (rtUsr g ps (d10.i)) (std.dint (std.fld (std.get zAsk ps (Int.toNat (d10.i))) 2)) (d10.s) (d10.p) (d10.a) (d10.h) (d10.es)))) = false) ∧ (((!((u.rE (rtUsr g ps (d10.i)) (std.dint (std.fld (std.get zAsk ps (Int.toNat (d10.i))) 2)) (d10.s) (d10.p) (d10.a) (d10.h) (d10.es)) == (u.rE (rtUsr g ps (d10.i)) (std.dint (std.fld (std.get zAsk ps (Int.toNat (d10.i))) 2)) (d10.s) (d10.p) (d10.a) (d10.h) (d10.es)))) = false) ∧ ((((-9223372036854775808 : Int) ≤ ((d10.s) + (u.rP (rtUsr g ps (d10.i)) (std.dint (std.fld (std.get zAsk ps (Int.toNat (d10.i))) 2)) (d10.s) (d10.p) (d10.a) (d10.h) (d10.es)))) ∧ (((d10.s) + (u.rP (rtUsr g ps (d10.i)) (std.dint (std.fld (std.get zAsk ps (Int.toNat (d10.i))) 2)) (d10.s) (d10.p) (d10.a) (d10.h) (d10.es))) ≤ (9223372036854775807 : Int))) ∧ (((!((std.feq (std.fof ((d10.s) + (u.rP (rtUsr g ps (d10.i)) (std.dint (std.fld (std.get zAsk ps (Int.toNat (d10.i))) 2)) (d10.s) (d10.p) (d10.a) (d10.h) (d10.es)))) (std.fof ((d10.s) + (u.rP (rtUsr g ps (d10.i)) (std.dint (std.fld (std.get zAsk ps (Int.toNat (d10.i))) 2)) (d10.s) (d10.p) (d10.a) (d10.h) (d10.es))))) && (std.feq (std.fof (u.rA (rtUsr g ps (d10.i)) (std.dint (std.fld (std.get zAsk ps (Int.toNat (d10.i))) 2)) (d10.s) (d10.p) (d10.a) (d10.h) (d10.es))) (std.fof (u.rA (rtUsr g ps (d10.i)) (std.dint (std.fld (std.get zAsk ps (Int.toNat (d10.i))) 2)) (d10.s) (d10.p) (d10.a) (d10.h) (d10.es)))))) = false) ∧ (True ∧ (((!((u.rP (rtUsr g ps (d10.i)) (std.dint (std.fld (std.get zAsk ps (Int.toNat (d10.i))) 2)) (d10.s) (d10.p) (d10.a) (d10.h) (d10.es)) == (u.rP (rtUsr g ps (d10.i)) (std.dint (std.fld (std.get zAsk ps (Int.toNat (d10.i))) 2)) (d10.s) (d10.p) (d10.a) (d10.h) (d10.es)))) = false) ∧ (True ∧ ((((d10.h) = true) → ((((d10.h) = true) → ((u.okS (u.rM (rtUsr g ps (d10.i)) (std.dint (std.fld (std.get zAsk ps (Int.toNat (d10.i))) 2)) (d10.s) (d10.p) (d10.a) (d10.h) (d10.es))) ∧ (((!(((List.length (u.srt (u.rM (rtUsr g ps (d10.i)) (std.dint (std.fld (std.get zAsk ps (Int.toNat (d10.i))) 2)) (d10.s) (d10.p) (d10.a) (d10.h) (d10.es)))) : Int) == ((List.length (u.rM (rtUsr g ps (d10.i)) (std.dint (std.fld (std.get zAsk ps (Int.toNat (d10.i))) 2)) (d10.s) (d10.p) (d10.a) (d10.h) (d10.es))) : Int))) = false) ∧ ((((Option.some (Value.func (Go.Fn.yield 0) (Array.mk [(Value.int IntKind.i64 (u.rP (rtUsr g ps (d10.i)) (std.dint (std.fld (std.get zAsk ps (Int.toNat (d10.i))) 2)) (d10.s) (d10.p) (d10.a) (d10.h) (d10.es)))]) (Array.mk []))) = (Option.some (Value.func (Go.Fn.yield 0) (Array.mk [(Value.int IntKind.i64 (u.rP (rtUsr g ps (d10.i)) (std.dint (std.fld (std.get zAsk ps (Int.toNat (d10.i))) 2)) (d10.s) (d10.p) (d10.a) (d10.h) (d10.es)))]) (Array.mk [])))) ∧ ((Option.some (Value.func (Go.Fn.yield 0) (Array.mk [(Value.int IntKind.i64 (u.rP (rtUsr g ps (d10.i)) (std.dint (std.fld (std.get zAsk ps (Int.toNat (d10.i))) 2)) (d10.s) (d10.p) (d10.a) (d10.h) (d10.es)))]) (Array.mk []))) = (Option.some (Value.func (Go.Fn.yield 0) (Array.mk [(Value.int IntKind.i64 (u.rP (rtUsr g ps (d10.i)) (std.dint (std.fld (std.get zAsk ps (Int.toNat (d10.i))) 2)) (d10.s) (d10.p) (d10.a) (d10.h) (d10.es)))]) (Array.mk []))))) ∧ ((((d10.h) = true) ∧ ((d10.h) = true)) ∧ ((u.okS (u.rM (rtUsr g ps (d10.i)) (std.dint (std.fld (std.get zAsk ps (Int.toNat (d10.i))) 2)) (d10.s) (d10.p) (d10.a) (d10.h) (d10.es))) ∧ (rtLp u ps I m J q d10 (d10.i) (Filler.val (Value.complex Go.FloatKind.f64 (std.fof ((d10.s) + (d10.p))) (std.fof (d10.a)))) (Filler.val (Value.complex Go.FloatKind.f64 (std.fof ((d10.s) + (u.rP (rtUsr g ps (d10.i)) (std.dint (std.fld (std.get zAsk ps (Int.toNat (d10.i))) 2)) (d10.s) (d10.p) (d10.a) (d10.h) (d10.es)))) (std.fof (u.rA (rtUsr g ps (d10.i)) (std.dint (std.fld (std.get zAsk ps (Int.toNat (d10.i))) 2)) (d10.s) (d10.p) (d10.a) (d10.h) (d10.es))))) (0 : Int) (u.srt (u.rM (rtUsr g ps (d10.i)) (std.dint (std.fld (std.get zAsk ps (Int.toNat (d10.i))) 2)) (d10.s) (d10.p) (d10.a) (d10.h) (d10.es))) (u.srt (u.rM (rtUsr g ps (d10.i)) (std.dint (std.fld (std.get zAsk ps (Int.toNat (d10.i))) 2)) (d10.s) (d10.p) (d10.a) (d10.h) (d10.es))) ((List.length (u.srt (u.rM (rtUsr g ps (d10.i)) (std.dint (std.fld (std.get zAsk ps (Int.toNat (d10.i))) 2)) (d10.s) (d10.p) (d10.a) (d10.h) (d10.es)))) : Int) (0 : Int) (d10.s) (u.rP (rtUsr g ps (d10.i)) (std.dint (std.fld (std.get zAsk ps (Int.toNat (d10.i))) 2)) (d10.s) (d10.p) (d10.a) (d10.h) (d10.es)) (u.rA (rtUsr g ps (d10.i)) (std.dint (std.fld (std.get zAsk ps (Int.toNat (d10.i))) 2)) (d10.s) (d10.p) (d10.a) (d10.h) (d10.es)) (d10.h) (u.rM (rtUsr g ps (d10.i)) (std.dint (std.fld (std.get zAsk ps (Int.toNat (d10.i))) 2)) (d10.s) (d10.p) (d10.a) (d10.h) (d10.es)) (d10.s) (u.rP (rtUsr g ps (d10.i)) (std.dint (std.fld (std.get zAsk ps (Int.toNat (d10.i))) 2)) (d10.s) (d10.p) (d10.a) (d10.h) (d10.es)) (u.rA (rtUsr g ps (d10.i)) (std.dint (std.fld (std.get zAsk ps (Int.toNat (d10.i))) 2)) (d10.s) (d10.p) (d10.a) (d10.h) (d10.es)) (d10.h) (u.rM (rtUsr g ps (d10.i)) (std.dint (std.fld (std.get zAsk ps (Int.toNat (d10.i))) 2)) (d10.s) (d10.p) (d10.a) (d10.h) (d10.es)) (std.dint (std.fld (std.get zAsk ps (Int.toNat (d10.i))) 0)) (std.dint (std.fld (std.get zAsk ps (Int.toNat (d10.i))) 1)) (std.dint (std.fld (std.get zAsk ps (Int.toNat (d10.i))) 2))))))))) ∧ (((d10.h) = false) → ((((Option.some (Value.func (Go.Fn.yield 0) (Array.mk [(Value.int IntKind.i64 (u.rP (rtUsr g ps (d10.i)) (std.dint (std.fld (std.get zAsk ps (Int.toNat (d10.i))) 2)) (d10.s) (d10.p) (d10.a) (d10.h) (d10.es)))]) (Array.mk []))) = (Option.some (Value.func (Go.Fn.yield 0) (Array.mk [(Value.int IntKind.i64 (u.rP (rtUsr g ps (d10.i)) (std.dint (std.fld (std.get zAsk ps (Int.toNat (d10.i))) 2)) (d10.s) (d10.p) (d10.a) (d10.h) (d10.es)))]) (Array.mk [])))) ∧ ((Option.some (Value.func (Go.Fn.yield 0) (Array.mk [(Value.int IntKind.i64 (u.rP (rtUsr g ps (d10.i)) (std.dint (std.fld (std.get zAsk ps (Int.toNat (d10.i))) 2)) (d10.s) (d10.p) (d10.a) (d10.h) (d10.es)))]) (Array.mk []))) = (Option.some (Value.func (Go.Fn.yield 0) (Array.mk [(Value.int IntKind.i64 (u.rP (rtUsr g ps (d10.i)) (std.dint (std.fld (std.get zAsk ps (Int.toNat (d10.i))) 2)) (d10.s) (d10.p) (d10.a) (d10.h) (d10.es)))]) (Array.mk []))))) ∧ ((((d10.h) = false) ∧ ((d10.h) = false)) ∧ ([(Value.bool false)] = [(Value.bool true)])))))) ∧ (((d10.h) = false) → ((((d10.h) = true) → ((((Option.some (Value.func (Go.Fn.yield 0) (Array.mk [(Value.int IntKind.i64 (u.rP (rtUsr g ps (d10.i)) (std.dint (std.fld (std.get zAsk ps (Int.toNat (d10.i))) 2)) (d10.s) (d10.p) (d10.a) (d10.h) (d10.es)))]) (Array.mk []))) = (Option.some (Value.func (Go.Fn.yield 0) (Array.mk [(Value.int IntKind.i64 (u.rP (rtUsr g ps (d10.i)) (std.dint (std.fld (std.get zAsk ps (Int.toNat (d10.i))) 2)) (d10.s) (d10.p) (d10.a) (d10.h) (d10.es)))]) (Array.mk [])))) ∧ ((Option.some (Value.func (Go.Fn.yield 0) (Array.mk [(Value.int IntKind.i64 (u.rP (rtUsr g ps (d10.i)) (std.dint (std.fld (std.get zAsk ps (Int.toNat (d10.i))) 2)) (d10.s) (d10.p) (d10.a) (d10.h) (d10.es)))]) (Array.mk []))) = (Option.some (Value.func (Go.Fn.yield 0) (Array.mk [(Value.int IntKind.i64 (u.rP (rtUsr g ps (d10.i)) (std.dint (std.fld (std.get zAsk ps (Int.toNat (d10.i))) 2)) (d10.s) (d10.p) (d10.a) (d10.h) (d10.es)))]) (Array.mk []))))) ∧ ((((d10.h) = true) ∧ ((d10.h) = true)) ∧ ([(Value.bool false)] = [(Value.bool true)])))) ∧ (((d10.h) = false) → ((u.okS (u.rM (rtUsr g ps (d10.i)) (std.dint (std.fld (std.get zAsk ps (Int.toNat (d10.i))) 2)) (d10.s) (d10.p) (d10.a) (d10.h) (d10.es))) ∧ (((!(((List.length (u.srt (u.rM (rtUsr g ps (d10.i)) (std.dint (std.fld (std.get zAsk ps (Int.toNat (d10.i))) 2)) (d10.s) (d10.p) (d10.a) (d10.h) (d10.es)))) : Int) == ((List.length (u.rM (rtUsr g ps (d10.i)) (std.dint (std.fld (std.get zAsk ps (Int.toNat (d10.i))) 2)) (d10.s) (d10.p) (d10.a) (d10.h) (d10.es))) : Int))) = false) ∧ ((((Option.some (Value.func (Go.Fn.yield 0) (Array.mk [(Value.int IntKind.i64 (u.rP (rtUsr g ps (d10.i)) (std.dint (std.fld (std.get zAsk ps (Int.toNat (d10.i))) 2)) (d10.s) (d10.p) (d10.a) (d10.h) (d10.es)))]) (Array.mk []))) = (Option.some (Value.func (Go.Fn.yield 0) (Array.mk [(Value.int IntKind.i64 (u.rP (rtUsr g ps (d10.i)) (std.dint (std.fld (std.get zAsk ps (Int.toNat (d10.i))) 2)) (d10.s) (d10.p) (d10.a) (d10.h) (d10.es)))]) (Array.mk [])))) ∧ ((Option.some (Value.func (Go.Fn.yield 0) (Array.mk [(Value.int IntKind.i64 (u.rP (rtUsr g ps (d10.i)) (std.dint (std.fld (std.get zAsk ps (Int.toNat (d10.i))) 2)) (d10.s) (d10.p) (d10.a) (d10.h) (d10.es)))]) (Array.mk []))) = (Option.some (Value.func (Go.Fn.yield 0) (Array.mk [(Value.int IntKind.i64 (u.rP (rtUsr g ps (d10.i)) (std.dint (std.fld (std.get zAsk ps (Int.toNat (d10.i))) 2)) (d10.s) (d10.p) (d10.a) (d10.h) (d10.es)))]) (Array.mk []))))) ∧ ((((d10.h) = false) ∧ ((d10.h) = false)) ∧ ((u.okS (u.rM (rtUsr g ps (d10.i)) (std.dint (std.fld (std.get zAsk ps (Int.toNat (d10.i))) 2)) (d10.s) (d10.p) (d10.a) (d10.h) (d10.es))) ∧ (rtLp u ps I m J q d10 (d10.i) (Filler.val (Value.complex Go.FloatKind.f64 (std.fof ((d10.s) + (d10.p))) (std.fof (d10.a)))) (Filler.val (Value.complex Go.FloatKind.f64 (std.fof ((d10.s) + (u.rP (rtUsr g ps (d10.i)) (std.dint (std.fld (std.get zAsk ps (Int.toNat (d10.i))) 2)) (d10.s) (d10.p) (d10.a) (d10.h) (d10.es)))) (std.fof (u.rA (rtUsr g ps (d10.i)) (std.dint (std.fld (std.get zAsk ps (Int.toNat (d10.i))) 2)) (d10.s) (d10.p) (d10.a) (d10.h) (d10.es))))) (0 : Int) (u.srt (u.rM (rtUsr g ps (d10.i)) (std.dint (std.fld (std.get zAsk ps (Int.toNat (d10.i))) 2)) (d10.s) (d10.p) (d10.a) (d10.h) (d10.es))) (u.srt (u.rM (rtUsr g ps (d10.i)) (std.dint (std.fld (std.get zAsk ps (Int.toNat (d10.i))) 2)) (d10.s) (d10.p) (d10.a) (d10.h) (d10.es))) ((List.length (u.srt (u.rM (rtUsr g ps (d10.i)) (std.dint (std.fld (std.get zAsk ps (Int.toNat (d10.i))) 2)) (d10.s) (d10.p) (d10.a) (d10.h) (d10.es)))) : Int) (0 : Int) (d10.s) (u.rP (rtUsr g ps (d10.i)) (std.dint (std.fld (std.get zAsk ps (Int.toNat (d10.i))) 2)) (d10.s) (d10.p) (d10.a) (d10.h) (d10.es)) (u.rA (rtUsr g ps (d10.i)) (std.dint (std.fld (std.get zAsk ps (Int.toNat (d10.i))) 2)) (d10.s) (d10.p) (d10.a) (d10.h) (d10.es)) (d10.h) (u.rM (rtUsr g ps (d10.i)) (std.dint (std.fld (std.get zAsk ps (Int.toNat (d10.i))) 2)) (d10.s) (d10.p) (d10.a) (d10.h) (d10.es)) (d10.s) (u.rP (rtUsr g ps (d10.i)) (std.dint (std.fld (std.get zAsk ps (Int.toNat (d10.i))) 2)) (d10.s) (d10.p) (d10.a) (d10.h) (d10.es)) (u.rA (rtUsr g ps (d10.i)) (std.dint (std.fld (std.get zAsk ps (Int.toNat (d10.i))) 2)) (d10.s) (d10.p) (d10.a) (d10.h) (d10.es)) (d10.h) (u.rM (rtUsr g ps (d10.i)) (std.dint (std.fld (std.get zAsk ps (Int.toNat (d10.i))) 2)) (d10.s) (d10.p) (d10.a) (d10.h) (d10.es)) (std.dint (std.fld (std.get zAsk ps (Int.toNat (d10.i))) 0)) (std.dint (std.fld (std.get zAsk ps (Int.toNat (d10.i))) 1)) (std.dint (std.fld (std.get zAsk ps (Int.toNat (d10.i))) 2))))))))))))))))))))))))) ∧ ((((std.dint (std.fld (std.get zAsk ps (Int.toNat (d10.i))) 0)) == (2 : Int)) = false) → (((((std.dint (std.fld (std.get zAsk ps (Int.toNat (d10.i))) 0)) == (3 : Int)) = true) → ((((0 : Int) ≤ (d10.p)) ∧ ((d10.p) ≤ (1073741824 : Int))) ∧ ((((decide ((std.dint (std.fld (std.get zAsk ps (Int.toNat (d10.i))) 2)) < (0 : Int))) = true) → (True ∧ ((((0 : Int) ≤ (d10.p)) ∧ ((d10.p) ≤ (1073741824 : Int))) ∧ (((((0 : Int) ≤ (u.bS (std.dint (std.fld (std.get zAsk ps (Int.toNat (d10.i))) 2)) (d10.s) (d10.p))) ∧ ((u.bS (std.dint (std.fld (std.get zAsk ps (Int.toNat (d10.i))) 2)) (d10.s) (d10.p)) ≤ (1073741824 : Int))) ∧ ((((0 : Int) ≤ (d10.p)) ∧ ((d10.p) ≤ (1073741824 : Int))) ∧ ((((0 : Int) ≤ (d10.a)) ∧ ((d10.a) ≤ (1073741824 : Int))) ∧ (((u.bS (std.dint (std.fld (std.get zAsk ps (Int.toNat (d10.i))) 2)) (d10.s) (d10.p)) + (d10.p)) ≤ (1073741824 : Int))))) ∧ (((!((u.bE (std.dint (std.fld (std.get zAsk ps (Int.toNat (d10.i))) 2)) (d10.p)) == (11 : Int))) = false) ∧ ((((-9223372036854775808 : Int) ≤ ((d10.s) + (d10.p))) ∧ (((d10.s) + (d10.p)) ≤ (9223372036854775807 : Int))) ∧ (((!((std.feq (std.fof ((u.bS (std.dint (std.fld (std.get zAsk ps (Int.toNat (d10.i))) 2)) (d10.s) (d10.p)) + (d10.p))) (std.fof ((d10.s) + (d10.p)))) && (std.feq (std.fof (d10.a)) (std.fof (d10.a))))) = false) ∧ (True ∧ (((!((d10.p) == (d10.p))) = false) ∧ (True ∧ ((((u.bH (std.dint (std.fld (std.get zAsk ps (Int.toNat (d10.i))) 2)) (d10.p) (d10.h)) = true) → ((((d10.h) = true) → ((u.okS (d10.es)) ∧ (((!(((List.length (u.srt (d10.es))) : Int) == ((List.length (d10.es)) : Int))) = false) ∧ ((((Option.some (Value.func (Go.Fn.yield 0) (Array.mk [(Value.int IntKind.i64 (d10.p))]) (Array.mk []))) = (Option.some (Value.func (Go.Fn.yield 0) (Array.mk [(Value.int IntKind.i64 (d10.p))]) (Array.mk [])))) ∧ ((Option.some (Value.func (Go.Fn.yield 0) (Array.mk [(Value.int IntKind.i64 (d10.p))]) (Array.mk []))) = (Option.some (Value.func (Go.Fn.yield 0) (Array.mk [(Value.int IntKind.i64 (d10.p))]) (Array.mk []))))) ∧ ((((d10.h) = true) ∧ ((d10.h) = true)) ∧ ((u.okS (d10.es)) ∧ (rtLp u ps I m J q d10 (d10.i) (Filler.val (Value.complex Go.FloatKind.f64 (std.fof ((d10.s) + (d10.p))) (std.fof (d10.a)))) (Filler.val (Value.complex Go.FloatKind.f64 (std.fof ((u.bS (std.dint (std.fld (std.get zAsk ps (Int.toNat (d10.i))) 2)) (d10.s) (d10.p)) + (d10.p))) (std.fof (d10.a)))) (0 : Int) (u.srt (d10.es)) (u.srt (d10.es)) ((List.length (u.srt (d10.es))) : Int) (0 : Int) (u.bS (std.dint (std.fld (std.get zAsk ps (Int.toNat (d10.i))) 2)) (d10.s) (d10.p)) (d10.p) (d10.a) (u.bH (std.dint (std.fld (std.get zAsk ps (Int.toNat (d10.i))) 2)) (d10.p) (d10.h)) (d10.es) (d10.s) (d10.p) (d10.a) (d10.h) (d10.es) (std.dint (std.fld (std.get zAsk ps (Int.toNat (d10.i))) 0)) (std.dint (std.fld (std.get zAsk ps (Int.toNat (d10.i))) 1)) (std.dint (std.fld (std.get zAsk ps (Int.toNat (d10.i))) 2))))))))) ∧ (((d10.h) = false) → ((((Option.some (Value.func (Go.Fn.yield 0) (Array.mk [(Value.int IntKind.i64 (d10.p))]) (Array.mk []))) = (Option.some (Value.func (Go.Fn.yield 0) (Array.mk [(Value.int IntKind.i64 (d10.p))]) (Array.mk [])))) ∧ ((Option.some (Value.func (Go.Fn.yield 0) (Array.mk [(Value.int IntKind.i64 (d10.p))]) (Array.mk []))) = (Option.some (Value.func (Go.Fn.yield 0) (Array.mk [(Value.int IntKind.i64 (d10.p))]) (Array.mk []))))) ∧ ((((d10.h) = false) ∧ ((d10.h) = false)) ∧ ([(Value.bool false)] = [(Value.bool true)])))))) ∧ (((u.bH (std.dint (std.fld (std.get zAsk ps (Int.toNat (d10.i))) 2)) (d10.p) (d10.h)) = false) → ((((d10.h) = true) → ((((Option.some (Value.func (Go.Fn.yield 0) (Array.mk [(Value.int IntKind.i64 (d10.p))]) (Array.mk []))) = (Option.some (Value.func (Go.Fn.yield 0) (Array.mk [(Value.int IntKind.i64 (d10.p))]) (Array.mk [])))) ∧ ((Option.some (Value.func (Go.Fn.yield 0) (Array.mk [(Value.int IntKind.i64 (d10.p))]) (Array.mk []))) = (Option.some (Value.func (Go.Fn.yield 0) (Array.mk [(Value.int IntKind.i64 (d10.p))]) (Array.mk []))))) ∧ ((((d10.h) = true) ∧ ((d10.h) = true)) ∧ ([(Value.bool false)] = [(Value.bool true)])))) ∧ (((d10.h) = false) → ((u.okS (d10.es)) ∧ (((!(((List.length (u.srt (d10.es))) : Int) == ((List.length (d10.es)) : Int))) = false) ∧ ((((Option.some (Value.func (Go.Fn.yield 0) (Array.mk [(Value.int IntKind.i64 (d10.p))]) (Array.mk []))) = (Option.some (Value.func (Go.Fn.yield 0) (Array.mk [(Value.int IntKind.i64 (d10.p))]) (Array.mk [])))) ∧ ((Option.some (Value.func (Go.Fn.yield 0) (Array.mk [(Value.int IntKind.i64 (d10.p))]) (Array.mk []))) = (Option.some (Value.func (Go.Fn.yield 0) (Array.mk [(Value.int IntKind.i64 (d10.p))]) (Array.mk []))))) ∧ ((((d10.h) = false) ∧ ((d10.h) = false)) ∧ ((u.okS (d10.es)) ∧ (rtLp u ps I m J q d10 (d10.i) (Filler.val (Value.complex Go.FloatKind.f64 (std.fof ((d10.s) + (d10.p))) (std.fof (d10.a)))) (Filler.val (Value.complex Go.FloatKind.f64 (std.fof ((u.bS (std.dint (std.fld (std.get zAsk ps (Int.toNat (d10.i))) 2)) (d10.s) (d10.p)) + (d10.p))) (std.fof (d10.a)))) (0 : Int) (u.srt (d10.es)) (u.srt (d10.es)) ((List.length (u.srt (d10.es))) : Int) (0 : Int) (u.bS (std.dint (std.fld (std.get zAsk ps (Int.toNat (d10.i))) 2)) (d10.s) (d10.p)) (d10.p) (d10.a) (u.bH (std.dint (std.fld (std.get zAsk ps (Int.toNat (d10.i))) 2)) (d10.p) (d10.h)) (d10.es) (d10.s) (d10.p) (d10.a) (d10.h) (d10.es) (std.dint (std.fld (std.get zAsk ps (Int.toNat (d10.i))) 0)) (std.dint (std.fld (std.get zAsk ps (Int.toNat (d10.i))) 1)) (std.dint (std.fld (std.get zAsk ps (Int.toNat (d10.i))) 2)))))))))))))))))))))) ∧ (((decide ((std.dint (std.fld (std.get zAsk ps (Int.toNat (d10.i))) 2)) < (0 : Int))) = false) → ((((-9223372036854775808 : Int) ≤ ((1073741824 : Int) - (d10.p))) ∧ (((1073741824 : Int) - (d10.p)) ≤ (9223372036854775807 : Int))) ∧ ((((decide (((1073741824 : Int) - (d10.p)) < (std.dint (std.fld (std.get zAsk ps (Int.toNat (d10.i))) 2)))) = true) → (True ∧ ((((0 : Int) ≤ (d10.p)) ∧ ((d10.p) ≤ (1073741824 : Int))) ∧ (((((0 : Int) ≤ (u.bS (std.dint (std.fld (std.get zAsk ps (Int.toNat (d10.i))) 2)) (d10.s) (d10.p))) ∧ ((u.bS (std.dint (std.fld (std.get zAsk ps (Int.toNat (d10.i))) 2)) (d10.s) (d10.p)) ≤ (1073741824 : Int))) ∧ ((((0 : Int) ≤ (d10.p)) ∧ ((d10.p) ≤ (1073741824 : Int))) ∧ ((((0 : Int) ≤ (d10.a)) ∧ ((d10.a) ≤ (1073741824 : Int))) ∧ (((u.bS (std.dint (std.fld (std.get zAsk ps (Int.toNat (d10.i))) 2)) (d10.s) (d10.p)) + (d10.p)) ≤ (1073741824 : Int))))) ∧ (((!((u.bE (std.dint (std.fld (std.get zAsk ps (Int.toNat (d10.i))) 2)) (d10.p)) == (11 : Int))) = false) ∧ ((((-9223372036854775808 : Int) ≤ ((d10.s) + (d10.p))) ∧ (((d10.s) + (d10.p)) ≤ (9223372036854775807 : Int))) ∧ (((!((std.feq (std.fof ((u.bS (std.dint (std.fld (std.get zAsk ps (Int.toNat (d10.i))) 2)) (d10.s) (d10.p)) + (d10.p))) (std.fof ((d10.s) + (d10.p)))) && (std.feq (std.fof (d10.a)) (std.fof (d10.a))))) = false) ∧ (True ∧ (((!((d10.p) == (d10.p))) = false) ∧ (True ∧ ((((u.bH (std.dint (std.fld (std.get zAsk ps (Int.toNat (d10.i))) 2)) (d10.p) (d10.h)) = true) → ((((d10.h) = true) → ((u.okS (d10.es)) ∧ (((!(((List.length (u.srt (d10.es))) : Int) == ((List.length (d10.es)) : Int))) = false) ∧ ((((Option.some (Value.func (Go.Fn.yield 0) (Array.mk [(Value.int IntKind.i64 (d10.p))]) (Array.mk []))) = (Option.some (Value.func (Go.Fn.yield 0) (Array.mk [(Value.int IntKind.i64 (d10.p))]) (Array.mk [])))) ∧ ((Option.some (Value.func (Go.Fn.yield 0) (Array.mk [(Value.int IntKind.i64 (d10.p))]) (Array.mk []))) = (Option.some (Value.func (Go.Fn.yield 0) (Array.mk [(Value.int IntKind.i64 (d10.p))]) (Array.mk []))))) ∧ ((((d10.h) = true) ∧ ((d10.h) = true)) ∧ ((u.okS (d10.es)) ∧ (rtLp u ps I m J q d10 (d10.i) (Filler.val (Value.complex Go.FloatKind.f64 (std.fof ((d10.s) + (d10.p))) (std.fof (d10.a)))) (Filler.val (Value.complex Go.FloatKind.f64 (std.fof ((u.bS (std.dint (std.fld (std.get zAsk ps (Int.toNat (d10.i))) 2)) (d10.s) (d10.p)) + (d10.p))) (std.fof (d10.a)))) (0 : Int) (u.srt (d10.es)) (u.srt (d10.es)) ((List.length (u.srt (d10.es))) : Int) (0 : Int) (u.bS (std.dint (std.fld (std.get zAsk ps (Int.toNat (d10.i))) 2)) (d10.s) (d10.p)) (d10.p) (d10.a) (u.bH (std.dint (std.fld (std.get zAsk ps (Int.toNat (d10.i))) 2)) (d10.p) (d10.h)) (d10.es) (d10.s) (d10.p) (d10.a) (d10.h) (d10.es) (std.dint (std.fld (std.get zAsk ps (Int.toNat (d10.i))) 0)) (std.dint (std.fld (std.get zAsk ps (Int.toNat (d10.i))) 1)) (std.dint (std.fld (std.get zAsk ps (Int.toNat (d10.i))) 2))))))))) ∧ (((d10.h) = false) → ((((Option.some (Value.func (Go.Fn.yield 0) (Array.mk [(Value.int IntKind.i64 (d10.p))]) (Array.mk []))) = (Option.some (Value.func (Go.Fn.yield 0) (Array.mk [(Value.int IntKind.i64 (d10.p))]) (Array.mk [])))) ∧ ((Option.some (Value.func (Go.Fn.yield 0) (Array.mk [(Value.int IntKind.i64 (d10.p))]) (Array.mk []))) = (Option.some (Value.func (Go.Fn.yield 0) (Array.mk [(Value.int IntKind.i64 (d10.p))]) (Array.mk []))))) ∧ ((((d10.h) = false) ∧ ((d10.h) = false)) ∧ ([(Value.bool false)] = [(Value.bool true)])))))) ∧ (((u.bH (std.dint (std.fld (std.get zAsk ps (Int.toNat (d10.i))) 2)) (d10.p) (d10.h)) = false) → ((((d10.h) = true) → ((((Option.some (Value.func (Go.Fn.yield 0) (Array.mk [(Value.int IntKind.i64 (d10.p))]) (Array.mk []))) = (Option.some (Value.func (Go.Fn.yield 0) (Array.mk [(Value.int IntKind.i64 (d10.p))]) (Array.mk [])))) ∧ ((Option.some (Value.func (Go.Fn.yield 0) (Array.mk [(Value.int IntKind.i64 (d10.p))]) (Array.mk []))) = (Option.some (Value.func (Go.Fn.yield 0) (Array.mk [(Value.int IntKind.i64 (d10.p))]) (Array.mk []))))) ∧ ((((d10.h) = true) ∧ ((d10.h) = true)) ∧ ([(Value.bool false)] = [(Value.bool true)])))) ∧ (((d10.h) = false) → ((u.okS (d10.es)) ∧ (((!(((List.length (u.srt (d10.es))) : Int) == ((List.length (d10.es)) : Int))) = false) ∧ ((((Option.some (Value.func (Go.Fn.yield 0) (Array.mk [(Value.int IntKind.i64 (d10.p))]) (Array.mk []))) = (Option.some (Value.func (Go.Fn.yield 0) (Array.mk [(Value.int IntKind.i64 (d10.p))]) (Array.mk [])))) ∧ ((Option.some (Value.func (Go.Fn.yield 0) (Array.mk [(Value.int IntKind.i64 (d10.p))]) (Array.mk []))) = (Option.some (Value.func (Go.Fn.yield 0) (Array.mk [(Value.int IntKind.i64 (d10.p))]) (Array.mk []))))) ∧ ((((d10.h) = false) ∧ ((d10.h) = false)) ∧ ((u.okS (d10.es)) ∧ (rtLp u ps I m J q d10 (d10.i) (Filler.val (Value.complex Go.FloatKind.f64 (std.fof ((d10.s) + (d10.p))) (std.fof (d10.a)))) (Filler.val (Value.complex Go.FloatKind.f64 (std.fof ((u.bS (std.dint (std.fld (std.get zAsk ps (Int.toNat (d10.i))) 2)) (d10.s) (d10.p)) + (d10.p))) (std.fof (d10.a)))) (0 : Int) (u.srt (d10.es)) (u.srt (d10.es)) ((List.length (u.srt (d10.es))) : Int) (0 : Int) (u.bS (std.dint (std.fld (std.get zAsk ps (Int.toNat (d10.i))) 2)) (d10.s) (d10.p)) (d10.p) (d10.a) (u.bH (std.dint (std.fld (std.get zAsk ps (Int.toNat (d10.i))) 2)) (d10.p) (d10.h)) (d10.es) (d10.s) (d10.p) (d10.a) (d10.h) (d10.es) (std.dint (std.fld (std.get zAsk ps (Int.toNat (d10.i))) 0)) (std.dint (std.fld (std.get zAsk ps (Int.toNat (d10.i))) 1)) (std.dint (std.fld (std.get zAsk ps (Int.toNat (d10.i))) 2)))))))))))))))))))))) ∧ (((decide (((1073741824 : Int) - (d10.p)) < (std.dint (std.fld (std.get zAsk ps (Int.toNat (d10.i))) 2)))) = false) → (True ∧ ((((0 : Int) ≤ (d10.p)) ∧ ((d10.p) ≤ (1073741824 : Int))) ∧ (((((0 : Int) ≤ (u.bS (std.dint (std.fld (std.get zAsk ps (Int.toNat (d10.i))) 2)) (d10.s) (d10.p))) ∧ ((u.bS (std.dint (std.fld (std.get zAsk ps (Int.toNat (d10.i))) 2)) (d10.s) (d10.p)) ≤ (1073741824 : Int))) ∧ ((((0 : Int) ≤ (d10.p)) ∧ ((d10.p) ≤ (1073741824 : Int))) ∧ ((((0 : Int) ≤ (d10.a)) ∧ ((d10.a) ≤ (1073741824 : Int))) ∧ (((u.bS (std.dint (std.fld (std.get zAsk ps (Int.toNat (d10.i))) 2)) (d10.s) (d10.p)) + (d10.p)) ≤ (1073741824 : Int))))) ∧ (((!((u.bE (std.dint (std.fld (std.get zAsk ps (Int.toNat (d10.i))) 2)) (d10.p)) == (0 : Int))) = false) ∧ ((((-9223372036854775808 : Int) ≤ ((std.dint (std.fld (std.get zAsk ps (Int.toNat (d10.i))) 2)) + (d10.p))) ∧ (((std.dint (std.fld (std.get zAsk ps (Int.toNat (d10.i))) 2)) + (d10.p)) ≤ (9223372036854775807 : Int))) ∧ (((!((std.feq (std.fof ((u.bS (std.dint (std.fld (std.get zAsk ps (Int.toNat (d10.i))) 2)) (d10.s) (d10.p)) + (d10.p))) (std.fof ((std.dint (std.fld (std.get zAsk ps (Int.toNat (d10.i))) 2)) + (d10.p)))) && (std.feq (std.fof (d10.a)) (std.fof (d10.a))))) = false) ∧ (True ∧ (((!((d10.p) == (d10.p))) = false) ∧ (True ∧ ((((u.bH (std.dint (std.fld (std.get zAsk ps (Int.toNat (d10.i))) 2)) (d10.p) (d10.h)) = true) → ((((Option.some (Value.func (Go.Fn.yield 0) (Array.mk [(Value.int IntKind.i64 (d10.p))]) (Array.mk []))) = (Option.some (Value.func (Go.Fn.yield 0) (Array.mk [(Value.int IntKind.i64 (d10.p))]) (Array.mk [])))) ∧ ((Option.some (Value.func (Go.Fn.yield 0) (Array.mk [(Value.int IntKind.i64 (d10.p))]) (Array.mk []))) = (Option.some (Value.func (Go.Fn.yield 0) (Array.mk [(Value.int IntKind.i64 (d10.p))]) (Array.mk []))))) ∧ ([(Value.bool false)] = [(Value.bool true)]))) ∧ (((u.bH (std.dint (std.fld (std.get zAsk ps (Int.toNat (d10.i))) 2)) (d10.p) (d10.h)) = false) → ((u.okS (d10.es)) ∧ (((!(((List.length (u.srt (d10.es))) : Int) == ((List.length (d10.es)) : Int))) = false) ∧ ((((Option.some (Value.func (Go.Fn.yield 0) (Array.mk [(Value.int IntKind.i64 (d10.p))]) (Array.mk []))) = (Option.some (Value.func (Go.Fn.yield 0) (Array.mk [(Value.int IntKind.i64 (d10.p))]) (Array.mk [])))) ∧ ((Option.some (Value.func (Go.Fn.yield 0) (Array.mk [(Value.int IntKind.i64 (d10.p))]) (Array.mk []))) = (Option.some (Value.func (Go.Fn.yield 0) (Array.mk [(Value.int IntKind.i64 (d10.p))]) (Array.mk []))))) ∧ ((u.okS (d10.es)) ∧ (rtLp u ps I m J q d10 (d10.i) (Filler.val (Value.complex Go.FloatKind.f64 (std.fof ((d10.s) + (d10.p))) (std.fof (d10.a)))) (Filler.val (Value.complex Go.FloatKind.f64 (std.fof ((u.bS (std.dint (std.fld (std.get zAsk ps (Int.toNat (d10.i))) 2)) (d10.s) (d10.p)) + (d10.p))) (std.fof (d10.a)))) (0 : Int) (u.srt (d10.es)) (u.srt (d10.es)) ((List.length (u.srt (d10.es))) : Int) (0 : Int) (u.bS (std.dint (std.fld (std.get zAsk ps (Int.toNat (d10.i))) 2)) (d10.s) (d10.p)) (d10.p) (d10.a) (u.bH (std.dint (std.fld (std.get zAsk ps (Int.toNat (d10.i))) 2)) (d10.p) (d10.h)) (d10.es) (std.dint (std.fld (std.get zAsk ps (Int.toNat (d10.i))) 2)) (d10.p) (d10.a) false (d10.es) (std.dint (std.fld (std.get zAsk ps (Int.toNat (d10.i))) 0)) (std.dint (std.fld (std.get zAsk ps (Int.toNat (d10.i))) 1)) (std.dint (std.fld (std.get zAsk ps (Int.toNat (d10.i))) 2))))))))))))))))))))))))) ∧ ((((std.dint (std.fld (std.get zAsk ps (Int.toNat (d10.i))) 0)) == (3 : Int)) = false) → (((((std.dint (std.fld (std.get zAsk ps (Int.toNat (d10.i))) 0)) == (4 : Int)) = true) → (True ∧ (True ∧ ((((0 : Int) ≤ (d10.p)) ∧ ((d10.p) ≤ (1073741824 : Int))) ∧ (((((0 : Int) ≤ (d10.s)) ∧ ((d10.s) ≤ (1073741824 : Int))) ∧ ((((0 : Int) ≤ (d10.p)) ∧ ((d10.p) ≤ (1073741824 : Int))) ∧ ((((0 : Int) ≤ (d10.a)) ∧ ((d10.a) ≤ (1073741824 : Int))) ∧ (((d10.s) + (d10.p)) ≤ (1073741824 : Int))))) ∧ ((((-9223372036854775808 : Int) ≤ ((d10.s) + (d10.p))) ∧ (((d10.s) + (d10.p)) ≤ (9223372036854775807 : Int))) ∧ (((!((std.feq (std.fof ((d10.s) + (d10.p))) (std.fof ((d10.s) + (d10.p)))) && (std.feq (std.fof (d10.a)) (std.fof (d10.a))))) = false) ∧ (True ∧ (((!((d10.p) == (d10.p))) = false) ∧ (True ∧ (((true = true) → ((u.okS (d10.es)) ∧ (((!(((List.length (u.srt (d10.es))) : Int) == ((List.length (d10.es)) : Int))) = false) ∧ ((((Option.some (Value.func (Go.Fn.yield 0) (Array.mk [(Value.int IntKind.i64 (d10.p))]) (Array.mk []))) = (Option.some (Value.func (Go.Fn.yield 0) (Array.mk [(Value.int IntKind.i64 (d10.p))]) (Array.mk [])))) ∧ ((Option.some (Value.func (Go.Fn.yield 0) (Array.mk [(Value.int IntKind.i64 (d10.p))]) (Array.mk []))) = (Option.some (Value.func (Go.Fn.yield 0) (Array.mk [(Value.int IntKind.i64 (d10.p))]) (Array.mk []))))) ∧ ((u.okS (d10.es)) ∧ (rtLp u ps I m J q d10 (d10.i) (Filler.val (Value.complex Go.FloatKind.f64 (std.fof ((d10.s) + (d10.p))) (std.fof (d10.a)))) (Filler.val (Value.complex Go.FloatKind.f64 (std.fof ((d10.s) + (d10.p))) (std.fof (d10.a)))) (0 : Int) (u.srt (d10.es)) (u.srt (d10.es)) ((List.length (u.srt (d10.es))) : Int) (0 : Int) (d10.s) (d10.p) (d10.a) true (d10.es) (d10.s) (d10.p) (d10.a) true (d10.es) (std.dint (std.fld (std.get zAsk ps (Int.toNat (d10.i))) 0)) (std.dint (std.fld (std.get zAsk ps (Int.toNat (d10.i))) 1)) (std.dint (std.fld (std.get zAsk ps (Int.toNat (d10.i))) 2)))))))) ∧ ((true = false) → ((((Option.some (Value.func (Go.Fn.yield 0) (Array.mk [(Value.int IntKind.i64 (d10.p))]) (Array.mk []))) = (Option.some (Value.func (Go.Fn.yield 0) (Array.mk [(Value.int IntKind.i64 (d10.p))]) (Array.mk [])))) ∧ ((Option.some (Value.func (Go.Fn.yield 0) (Array.mk [(Value.int IntKind.i64 (d10.p))]) (Array.mk []))) = (Option.some (Value.func (Go.Fn.yield 0) (Array.mk [(Value.int IntKind.i64 (d10.p))]) (Array.mk []))))) ∧ ([(Value.bool false)] = [(Value.bool true)])))))))))))))) ∧ ((((std.dint (std.fld (std.get zAsk ps (Int.toNat (d10.i))) 0)) == (4 : Int)) = false) → (True ∧ ((((0 : Int) ≤ (d10.p)) ∧ ((d10.p) ≤ (1073741824 : Int))) ∧ (((((0 : Int) ≤ (d10.s)) ∧ ((d10.s) ≤ (1073741824 : Int))) ∧ ((((0 : Int) ≤ (d10.p)) ∧ ((d10.p) ≤ (1073741824 : Int))) ∧ ((((0 : Int) ≤ (d10.a)) ∧ ((d10.a) ≤ (1073741824 : Int))) ∧ (((d10.s) + (d10.p)) ≤ (1073741824 : Int))))) ∧ ((((-9223372036854775808 : Int) ≤ ((d10.s) + (d10.p))) ∧ (((d10.s) + (d10.p)) ≤ (9223372036854775807 : Int))) ∧ (((!((std.feq (std.fof ((d10.s) + (d10.p))) (std.fof ((d10.s) + (d10.p)))) && (std.feq (std.fof (d10.a)) (std.fof (d10.a))))) = false) ∧ (True ∧ (((!((d10.p) == (d10.p))) = false) ∧ (True ∧ ((((d10.h) = true) → ((((d10.h) = true) → ((u.okS (d10.es)) ∧ (((!(((List.length (u.srt (d10.es))) : Int) == ((List.length (d10.es)) : Int))) = false) ∧ ((((Option.some (Value.func (Go.Fn.yield 0) (Array.mk [(Value.int IntKind.i64 (d10.p))]) (Array.mk []))) = (Option.some (Value.func (Go.Fn.yield 0) (Array.mk [(Value.int IntKind.i64 (d10.p))]) (Array.mk [])))) ∧ ((Option.some (Value.func (Go.Fn.yield 0) (Array.mk [(Value.int IntKind.i64 (d10.p))]) (Array.mk []))) = (Option.some (Value.func (Go.Fn.yield 0) (Array.mk [(Value.int IntKind.i64 (d10.p))]) (Array.mk []))))) ∧ ((((d10.h) = true) ∧ ((d10.h) = true)) ∧ ((u.okS (d10.es)) ∧ (rtLp u ps I m J q d10 (d10.i) (Filler.val (Value.complex Go.FloatKind.f64 (std.fof ((d10.s) + (d10.p))) (std.fof (d10.a)))) (Filler.val (Value.complex Go.FloatKind.f64 (std.fof ((d10.s) + (d10.p))) (std.fof (d10.a)))) (0 : Int) (u.srt (d10.es)) (u.srt (d10.es)) ((List.length (u.srt (d10.es))) : Int) (0 : Int) (d10.s) (d10.p) (d10.a) (d10.h) (d10.es) (d10.s) (d10.p) (d10.a) (d10.h) (d10.es) (std.dint (std.fld (std.get zAsk ps (Int.toNat (d10.i))) 0)) (std.dint (std.fld (std.get zAsk ps (Int.toNat (d10.i))) 1)) (std.dint (std.fld (std.get zAsk ps (Int.toNat (d10.i))) 2))))))))) ∧ (((d10.h) = false) → ((((Option.some (Value.func (Go.Fn.yield 0) (Array.mk [(Value.int IntKind.i64 (d10.p))]) (Array.mk []))) = (Option.some (Value.func (Go.Fn.yield 0) (Array.mk [(Value.int IntKind.i64 (d10.p))]) (Array.mk [])))) ∧ ((Option.some (Value.func (Go.Fn.yield 0) (Array.mk [(Value.int IntKind.i64 (d10.p))]) (Array.mk []))) = (Option.some (Value.func (Go.Fn.yield 0) (Array.mk [(Value.int IntKind.i64 (d10.p))]) (Array.mk []))))) ∧ ((((d10.h) = false) ∧ ((d10.h) = false)) ∧ ([(Value.bool false)] = [(Value.bool true)])))))) ∧ (((d10.h) = false) → ((((d10.h) = true) → ((((Option.some (Value.func (Go.Fn.yield 0) (Array.mk [(Value.int IntKind.i64 (d10.p))]) (Array.mk []))) = (Option.some (Value.func (Go.Fn.yield 0) (Array.mk [(Value.int IntKind.i64 (d10.p))]) (Array.mk [])))) ∧ ((Option.some (Value.func (Go.Fn.yield 0) (Array.mk [(Value.int IntKind.i64 (d10.p))]) (Array.mk []))) = (Option.some (Value.func (Go.Fn.yield 0) (Array.mk [(Value.int IntKind.i64 (d10.p))]) (Array.mk []))))) ∧ ((((d10.h) = true) ∧ ((d10.h) = true)) ∧ ([(Value.bool false)] = [(Value.bool true)])))) ∧ (((d10.h) = false) → ((u.okS (d10.es)) ∧ (((!(((List.length (u.srt (d10.es))) : Int) == ((List.length (d10.es)) : Int))) = false) ∧ ((((Option.some (Value.func (Go.Fn.yield 0) (Array.mk [(Value.int IntKind.i64 (d10.p))]) (Array.mk []))) = (Option.some (Value.func (Go.Fn.yield 0) (Array.mk [(Value.int IntKind.i64 (d10.p))]) (Array.mk [])))) ∧ ((Option.some (Value.func (Go.Fn.yield 0) (Array.mk [(Value.int IntKind.i64 (d10.p))]) (Array.mk []))) = (Option.some (Value.func (Go.Fn.yield 0) (Array.mk [(Value.int IntKind.i64 (d10.p))]) (Array.mk []))))) ∧ ((((d10.h) = false) ∧ ((d10.h) = false)) ∧ ((u.okS (d10.es)) ∧ (rtLp u ps I m J q d10 (d10.i) (Filler.val (Value.complex Go.FloatKind.f64 (std.fof ((d10.s) + (d10.p))) (std.fof (d10.a)))) (Filler.val (Value.complex Go.FloatKind.f64 (std.fof ((d10.s) + (d10.p))) (std.fof (d10.a)))) (0 : Int) (u.srt (d10.es)) (u.srt (d10.es)) ((List.length (u.srt (d10.es))) : Int) (0 : Int) (d10.s) (d10.p) (d10.a) (d10.h) (d10.es) (d10.s) (d10.p) (d10.a) (d10.h) (d10.es) (std.dint (std.fld (std.get zAsk ps (Int.toNat (d10.i))) 0)) (std.dint (std.fld (std.get zAsk ps (Int.toNat (d10.i))) 1)) (std.dint (std.fld (std.get zAsk ps (Int.toNat (d10.i))) 2)))))))))))))))))))))))))))))))))) ∧ (((decide ((d10.i) < (40 : Int))) = false) → ([(Value.bool true)] = [(Value.bool true)])))) ∧ (((decide ((d10.i) < ((List.length ps) : Int))) = false) → ([(Value.bool true)] = [(Value.bool true)]))))))))
set_option maxRecDepth 100000 in
theorem rt_vc (g : KvF) (u : RtF) (ps : List Value) (I : RtA → Prop) (m : RtA → Nat) (J : RtB → Prop) (q : RtB → Nat) : runP std (rtCon std g u) 90 (rtLs ps I m J q) rtP 8 Try.f8 (ps, ()) =
  (rt_vc_M g u ps I m J q) := by kernel_rfl
end Go.Proofs.Ytddejgkfgnokgaa
end
section
namespace Go.Proofs.Ytddejgkfgnokgaa
open Go.RowKit Go.Abs Go
set_option maxRecDepth 100000
theorem ri_eq {a b : Int} (h : [Value.int .i64 a] = [Value.int .i64 b]) : a = b := by injection h with h; injection h
def rtI (ps : List Value) (d : RtA) : Prop := ∃ (i : Nat) (A : AT), d.i = i ∧ i ≤ 40 ∧ i ≤ ps.length ∧ RK A d.s d.p d.a d.es
def rtJ (ps : List Value) (d : RtB) : Prop := ∃ (i : Nat) (A : AT) (j : Nat) (a0 : Int), d.i = i ∧ i < 40 ∧ i < ps.length ∧ RK A d.s d.p d.a d.es ∧ d.us = (KK A).map kT ∧ d.m = ((KK A).length : Int) ∧ d.j = j ∧ j ≤ (KK A).length ∧ d.sm = psT (getT A) ((KK A).take j) ∧
  (0 ≤ a0 ∧ a0 ≤ 1073741824 ∧ d.y0 = std.fof a0) ∧ okXF d.x0 d.y0 d.x1 d.y1 ∧ ((d.k = 1 ∨ d.k = 2) → 0 < a0 → rtF.ri d.x0 d.y0 d.x1 d.y1 = true)
def rtMA (d : RtA) : Nat := (40 - d.i).toNat
def rtMB (d : RtB) : Nat := (d.m - d.j).toNat
theorem fgt_zero {a : Int} (h : 0 ≤ a ∧ a ≤ 1073741824) (hf : (std.fge (std.fof a) 0 && !(std.feq (std.fof a) 0)) = true) : 0 < a := by
  have e0 : std.fof 0 = 0 := by
    have := fof_word (n := 0) (by omega)
    exact this
  by_cases e : a = 0
  · subst e
    rw [← e0, feq_fof (by omega) (by omega)] at hf
    simp at hf
  · omega
theorem rbody_ok (ps : List Value) (d10 : RtA) (D0 D1 : RtB) (h0 : D0.i = d10.i) (hJ : rtJ ps D1) : rtBody rtF ps (rtI ps) rtMA (rtJ ps) rtMB d10 D0 D1 := by
  obtain ⟨i, A, j, a0, hi, h40, hin, R, hus, hm, hj, hjl, hsm, ⟨ha0, ha1, hy0⟩, hokx, hri⟩ := hJ
  unfold rtBody
  intro h1
  have h1 := ri_eq h1
  have hul : D1.us.length = (KK A).length := by rw [hus, List.length_map]
  have hnn : ∀ k, 0 ≤ getT A k := fun k => (get_le k R.vs).1
  have htot : psT (getT A) (KK A) = D1.a := by rw [tot_ps R.nd, R.tot]
  have ha := R.a1
  have hl3 : (KK A).length ≤ 3 := by rw [KK_len]; exact R.len
  have eu : ∀ (k : Nat) (hk : k < (KK A).length), eS D1.us k = (KK A)[k] := fun k hk => by
    show dstr (D1.us.getD k zS) = _
    rw [hus, List.getD_eq_getElem?_getD, List.getElem?_map, List.getElem?_eq_getElem hk]
    rfl
  have eg : ∀ u : BS, std.dint (std.mget (Value.string (ByteArray.mk (Array.mk []))) (Value.int IntKind.i64 (0 : Int)) D1.es (Value.string u)) = getT A u := fun u => by
    rw [R.es_]
    exact has_img u A
  refine ⟨fun h2 => ?_, fun h5 => ?_⟩
  · have h2 := of_decide_eq_true h2
    have hlt : j < (KK A).length := by omega
    have ej : Int.toNat D1.j = j := by rw [hj, Int.toNat_natCast]
    have hp := ps_le hnn (KK A) j
    have hp2 := ps_le hnn (KK A) (j + 1)
    rw [ps_next _ hlt, ← hsm] at hp2
    rw [← hsm] at hp
    have nJ : rtJ ps { i := D1.i, x0 := D1.x0, y0 := D1.y0, x1 := D1.x1, y1 := D1.y1, sm := D1.sm + getT A ((KK A)[j]), us := D1.us, m := D1.m, j := D1.j + 1, s := D1.s, p := D1.p, a := D1.a, h := D1.h, es := D1.es, k := D1.k, w := D1.w, n := D1.n } :=
      ⟨i, A, j + 1, a0, hi, h40, hin, R, hus, hm, by show D1.j + 1 = _; omega, hlt, by show D1.sm + _ = _; rw [ps_next _ hlt, ← hsm], ⟨ha0, ha1, hy0⟩, hokx, hri⟩
    rw [eg, ej, eu j hlt]
    have bnd : (-9223372036854775808 : Int) ≤ D1.sm + getT A ((KK A)[j]) ∧ D1.sm + getT A ((KK A)[j]) ≤ 9223372036854775807 := by omega
    have tell : (!(getT A ((KK A)[j]) == getT A ((KK A)[j]))) = false := by simp
    have meas : Nat.le (Nat.succ (rtMB { i := D1.i, x0 := D1.x0, y0 := D1.y0, x1 := D1.x1, y1 := D1.y1, sm := D1.sm + getT A ((KK A)[j]), us := D1.us, m := D1.m, j := D1.j + 1, s := D1.s, p := D1.p, a := D1.a, h := D1.h, es := D1.es, k := D1.k, w := D1.w, n := D1.n })) (rtMB D1) := by
      show (D1.m - (D1.j + 1)).toNat + 1 ≤ (D1.m - D1.j).toNat
      omega
    have gh : [Value.int .i64 D1.i] = [Value.int .i64 D0.i] := by rw [h1]
    refine ⟨⟨by omega, by omega⟩, ⟨fun h3 => have h3 := of_decide_eq_true h3; ⟨⟨by omega, by omega⟩, ⟨⟨by omega, by omega⟩, ⟨?_, ⟨trivial, ⟨tell, ⟨⟨rfl, rfl⟩, ⟨trivial, ⟨bnd, ⟨⟨by omega, by omega⟩, ⟨_, rfl, meas, gh, nJ⟩⟩⟩⟩⟩⟩⟩⟩⟩⟩, fun h4 => ⟨trivial, ⟨tell, ⟨⟨rfl, rfl⟩, ⟨trivial, ⟨bnd, ⟨⟨by omega, by omega⟩, ⟨_, rfl, meas, gh, nJ⟩⟩⟩⟩⟩⟩⟩⟩⟩
    have hl := KK_lt R.nd (j := j - 1) (by omega)
    have e9 : j - 1 + 1 = j := by omega
    have e8 : Int.toNat (D1.j - 1) = j - 1 := by omega
    rw [e8, eu (j - 1) (by omega)]
    have : (KK A)[j - 1 + 1]'(by omega) = (KK A)[j] := by congr 1
    rw [this] at hl
    have hl : std.slt ((KK A)[j - 1]'(by omega)) ((KK A)[j]) = true := hl
    rw [hl]; rfl
  · have h5 := of_decide_eq_false h5
    have hjj : j = (KK A).length := by omega
    rw [hjj, List.take_length, htot] at hsm
    have tell : (!(D1.sm == D1.a)) = false := by rw [hsm]; simp
    have nxt : ∀ (h : Prop), ((((-9223372036854775808 : Int) ≤ D1.i + 1 ∧ D1.i + 1 ≤ 9223372036854775807) ∧ ∃ d : RtA, [Filler.dl ps, Filler.val (Value.int .i64 d.i), Filler.val (Value.int .i64 d.s), Filler.val (Value.int .i64 d.p), Filler.val (Value.int .i64 d.a), Filler.val (Value.bool d.h), Filler.me d.es, Filler.val (Value.int .i64 d.s), Filler.val (Value.int .i64 d.p), Filler.val (Value.int .i64 d.a), Filler.val (Value.bool d.h), Filler.me d.es] = [Filler.dl ps, Filler.val (Value.int .i64 (D1.i + 1)), Filler.val (Value.int .i64 D1.s), Filler.val (Value.int .i64 D1.p), Filler.val (Value.int .i64 D1.a), Filler.val (Value.bool D1.h), Filler.me D1.es, Filler.val (Value.int .i64 D1.s), Filler.val (Value.int .i64 D1.p), Filler.val (Value.int .i64 D1.a), Filler.val (Value.bool D1.h), Filler.me D1.es] ∧ Nat.le (Nat.succ (rtMA d)) (rtMA d10) ∧ rtI ps d) → h) → h := by
      intro h hh
      refine hh ⟨⟨by omega, by omega⟩, ⟨{ i := D1.i + 1, s := D1.s, p := D1.p, a := D1.a, h := D1.h, es := D1.es }, rfl, ?_, ⟨i + 1, A, by show D1.i + 1 = _; omega, by omega, hin, R⟩⟩⟩
      show (40 - (D1.i + 1)).toNat + 1 ≤ (40 - d10.i).toNat
      omega
    have ris : (D1.k = 1 ∨ D1.k = 2) → (std.fge D1.y0 0 && !(std.feq D1.y0 0)) = true → rtF.ri D1.x0 D1.y0 D1.x1 D1.y1 = true := fun hk hf => hri hk (fgt_zero ⟨ha0, ha1⟩ (by rw [← hy0]; exact hf))
    refine ⟨tell, ⟨fun h6 => ⟨fun h7 => ⟨fun h8 => ⟨hokx, ⟨fun h9 => nxt _ id, fun h10 => ?_⟩⟩, fun h11 => nxt _ id⟩, fun h12 => nxt _ id⟩, fun h13 => ⟨fun h14 => ⟨fun h15 => ⟨fun h16 => ⟨hokx, ⟨fun h17 => nxt _ id, fun h18 => ?_⟩⟩, fun h19 => nxt _ id⟩, fun h20 => nxt _ id⟩, fun h21 => nxt _ id⟩⟩⟩
    · have := ris (.inl (by simpa using h6)) h8
      rw [this] at h10; cases h10
    · have := ris (.inr (by simpa using h14)) h16
      rw [this] at h18; cases h18
theorem rlp_ok (ps : List Value) (d10 : RtA) (i : Nat) (A A2 : AT) (hi : d10.i = i) (h40 : i < 40) (hin : i < ps.length) (R0 : RK A d10.s d10.p d10.a d10.es) {s p a : Int} {es : Ents} (h : Bool) (R : RK A2 s p a es) (k w n : Int) (hk : (k = 1 ∨ k = 2) → 0 < d10.a → (d10.s + d10.p) * a ≤ (s + p) * d10.a) :
    rtLp rtF ps (rtI ps) rtMA (rtJ ps) rtMB d10 d10.i (Filler.val (Value.complex .f64 (std.fof (d10.s + d10.p)) (std.fof d10.a))) (Filler.val (Value.complex .f64 (std.fof (s + p)) (std.fof a))) 0 (rtF.srt es) (rtF.srt es) ((List.length (rtF.srt es) : Nat) : Int) 0 s p a h es s p a h es k w n := by
  have b1 := R0.s0
  have b2 := R0.p0
  have b3 := R0.sp
  have b4 := R0.a0
  have b5 := R0.a1
  have c1 := R.s0
  have c2 := R.p0
  have c3 := R.sp
  have c4 := R.a0
  have c5 := R.a1
  have es_ : rtF.srt es = (KK A2).map kT := by rw [R.es_]; exact srtT_img A2
  unfold rtLp
  refine ⟨{ i := d10.i, x0 := std.fof (d10.s + d10.p), y0 := std.fof d10.a, x1 := std.fof (s + p), y1 := std.fof a, sm := 0, us := rtF.srt es, m := ((List.length (rtF.srt es) : Nat) : Int), j := 0, s := s, p := p, a := a, h := h, es := es, k := k, w := w, n := n }, rfl, ⟨i, A2, 0, d10.a, hi, h40, hin, R, es_, by show ((List.length (rtF.srt es) : Nat) : Int) = _; rw [es_, List.length_map], rfl, Nat.zero_le _, rfl, ⟨b4, b5, rfl⟩, ⟨d10.s + d10.p, d10.a, s + p, a, by omega, by omega, by omega, by omega, rfl, rfl, rfl, rfl⟩, fun h1 h2 => ri_le (by omega) (by omega) (by omega) (by omega) (hk h1 h2)⟩, fun D1 hJ => rbody_ok ps d10 _ D1 rfl hJ⟩
end Go.Proofs.Ytddejgkfgnokgaa
end
section
namespace Go.Proofs.Ytddejgkfgnokgaa
open Go Go.Abs Go.RowKit Go.ChangeShapes Go.WideShapes Go.ChangeAt
set_option maxRecDepth 100000
theorem rq_pool : (std.feq (std.fof (10 + 10)) 4626322717216342016 && std.feq (std.fof 10) 4621819117588971520) = true := by kernel_rfl
theorem rq_same : ssF (rtF.srt (imgT [(nmA, 9), (nmB, 2)])) [(Value.string (ByteArray.mk (Array.mk [(97 : UInt8)]))), (Value.string (ByteArray.mk (Array.mk [(98 : UInt8)])))] = true := by kernel_rfl
theorem rrun_run : runP std (rrunCon std rtF ssF) 90 noL runsP 3 Try.f3 () := by
  refine (rrun_vc rtF ssF).mpr ?_
  rw [rq1N, rq1E, rq1P, rq1A, rq1M, rqbE, rqbS, rqbH, rq2N, rq2E, rq2P, rq2A, rq2M, rq3N, rq3E, rq3M, rq_pool, rq_same]
  refine ⟨rk0.okM _ 10, ⟨by decide, ⟨by decide, ⟨rk1.okM _ 5, ⟨rk2.okM _ 1, ⟨fun h1 => ⟨fun h2 => ⟨fun h3 => ⟨fun h4 => ⟨fun h5 => ⟨fun h6 => ⟨fun h7 => ⟨fun h8 => ⟨rk3.okS, ⟨?_, ⟨fun h9 => rfl, fun h10 => by cases h10⟩⟩⟩, fun h11 => absurd h11 (by decide)⟩, fun h12 => absurd h12 (by decide)⟩, fun h13 => absurd h13 (by decide)⟩, fun h14 => absurd h14 (by decide)⟩, fun h15 => by cases h15⟩, fun h16 => absurd h16 (by decide)⟩, fun h17 => absurd h17 (by decide)⟩, fun h18 => absurd h18 (by decide)⟩⟩⟩⟩⟩⟩
  have e : rtF.srt (imgT [(nmA, 9), (nmB, 2)]) = (KK [(nmA, 9), (nmB, 2)]).map kT := srtT_img _
  rw [e, List.length_map, KK_len]
  decide
theorem rrunCon_ok : ConOk Try.prog (rrunCon std rtF ssF) := conL_ok fun x hx => by
  rcases List.mem_cons.1 hx with rfl | hx
  · exact lmint_ok.sem
  rcases List.mem_cons.1 hx with rfl | hx
  · exact lred_ok.sem
  rcases List.mem_cons.1 hx with rfl | hx
  · exact lback_ok.sem
  rcases List.mem_cons.1 hx with rfl | hx
  · exact lpl_ok.sem
  rcases List.mem_cons.1 hx with rfl | hx
  · exact lusers_ok.sem
  rw [List.mem_singleton.1 hx]
  exact pcon_ok ss_ok
theorem rrun_ok : PFOk Try.prog 3 runsP :=
  pf_ok (LS := fun _ => noL) Try.progOk rrunCon_ok (inCallF_ok 60) runsP Try.func3 (show _ = some (bodyS Try.prog 3) by kernel_rfl) fun _ _ => rrun_run
/-- A sentence shown by its function's contract. -/
theorem closedP_sem {f : FuncId} (h : PFOk Try.prog f runsP) : ∀ args hp K, closedC (.bool true) args hp K → CallSem Try.prog f args hp K := by
  intro args hp K e
  unfold closedC at e
  split at e
  · exact pcon_ok h [] hp K ⟨trivial, e⟩
  · exact e.elim
theorem rtCon_ok : ConOk Try.prog (rtCon std kvF rtF) := by
  have H := draw_ok (P := Try.prog) (C := conL [(16, pcon (withinP std kvF)), (10, ocon (mintO rtF)), (13, ocon (redO rtF)), (23, ocon (rmintO rtF)), (24, ocon (rredO rtF)), (11, ocon (backO std rtF)), (19, ocon haltO), (12, ocon (plO std)), (15, ocon (usersO rtF)), (17, ocon (sharesO std)), (22, ocon ledCpO), (18, ocon (riO rtF)), (3, closedC (.bool true))]) (l := [(21, ocd pendO), (20, ocd hltdO), (15, ocd (usersO rtF)), (17, ocd (sharesO std))]) (conL_ok fun x hx => by
    rcases List.mem_cons.1 hx with rfl | hx
    · exact pcon_ok wi_ok
    rcases List.mem_cons.1 hx with rfl | hx
    · exact lmint_ok.sem
    rcases List.mem_cons.1 hx with rfl | hx
    · exact lred_ok.sem
    rcases List.mem_cons.1 hx with rfl | hx
    · exact lrmint_ok.sem
    rcases List.mem_cons.1 hx with rfl | hx
    · exact lrred_ok.sem
    rcases List.mem_cons.1 hx with rfl | hx
    · exact lback_ok.sem
    rcases List.mem_cons.1 hx with rfl | hx
    · exact lhalt_ok.sem
    rcases List.mem_cons.1 hx with rfl | hx
    · exact lpl_ok.sem
    rcases List.mem_cons.1 hx with rfl | hx
    · exact lusers_ok.sem
    rcases List.mem_cons.1 hx with rfl | hx
    · exact lshares_ok.sem
    rcases List.mem_cons.1 hx with rfl | hx
    · exact lledcp_ok.sem
    rcases List.mem_cons.1 hx with rfl | hx
    · exact lri_ok.sem
    rw [List.mem_singleton.1 hx]
    exact closedP_sem rrun_ok) fun x hx => by
    rcases List.mem_cons.1 hx with rfl | hx
    · exact ocd_ok lpend_ok
    rcases List.mem_cons.1 hx with rfl | hx
    · exact ocd_ok lhltd_ok
    rcases List.mem_cons.1 hx with rfl | hx
    · exact ocd_ok lusers_ok
    rw [List.mem_singleton.1 hx]
    exact ocd_ok lshares_ok
  exact ⟨H.con, H.draws, H.pures⟩
/-- Calls' numbers are as Go's. -/
def AsksOk (ps : List Value) : Prop := ∀ i, i < ps.length → ∀ j, j < 3 → -9223372036854775808 ≤ std.dint (std.fld (std.get zAsk ps i) j) ∧ std.dint (std.fld (std.get zAsk ps i) j) ≤ 9223372036854775807
theorem raw_agg {zs : List Value} {x : Value} (h : RawOk (.agg zs.toArray) x) : ∃ us : List Value, x = .agg us.toArray ∧ us.length = zs.length ∧ ∀ (i : Nat) z u, zs[i]? = some z → us[i]? = some u → RawOk z u := by
  generalize hz : Value.agg zs.toArray = z at h
  cases h with
  | agg hl hu =>
    injection hz with hz
    have hz := congrArg Array.toList hz
    have hz : zs = _ := hz
    subst hz
    exact ⟨_, rfl, hl, hu⟩
  | _ => cases hz
theorem sl_asks {xs : List Value} (h : ∀ x ∈ xs, RawOk zAsk x) : AsksOk xs := by
  intro i hi j hj
  have e : std.get zAsk xs i = xs[i] := by
    show xs.getD i zAsk = _
    rw [List.getD_eq_getElem?_getD, List.getElem?_eq_getElem hi]; rfl
  rw [e]
  obtain ⟨us, hx, hl, hu⟩ := raw_agg (zs := [zI, zI, zI]) (h _ (List.getElem_mem hi))
  rw [hx]
  have hl : us.length = 3 := hl
  have hz : [zI, zI, zI][j]? = some zI := by
    match j, hj with
    | 0, _ => rfl
    | 1, _ => rfl
    | 2, _ => rfl
  have r := hu j zI us[j] hz (List.getElem?_eq_getElem (by omega))
  have ef : std.fld (.agg us.toArray) j = us[j] := by
    show us.toArray.getD j (.bool false) = _
    have hj2 : j < us.toArray.size := by rw [List.size_toArray]; omega
    rw [Array.getD, dif_pos hj2]
    rfl
  rw [ef]
  generalize us[j] = y at r
  have h9 := sl_ints (l := [y]) (fun x hx => by rw [List.mem_singleton.1 hx]; exact r) 0 Nat.zero_lt_one
  exact h9
theorem tl_eq (x : Int) : (!(x == x)) = false := by simp
theorem tl_fl {m n : Int} (hm : 0 ≤ m ∧ m ≤ 1073741824) (hn : 0 ≤ n ∧ n ≤ 1073741824) : (!(std.feq (std.fof m) (std.fof m) && std.feq (std.fof n) (std.fof n))) = false := by
  rw [feq_fof (m := m) (n := m) (by omega) (by omega), feq_fof (m := n) (n := n) (by omega) (by omega)]
  simp
theorem RK.lenS {A : AT} {s p a : Int} {es : Ents} (R : RK A s p a es) : (!(((List.length (rtF.srt es) : Nat) : Int) == ((List.length es : Nat) : Int))) = false := by
  have e : rtF.srt es = (KK A).map kT := by rw [R.es_]; exact srtT_img A
  have e2 : es.length = A.length := by rw [R.es_]; exact List.length_map ..
  rw [e, List.length_map, KK_len, e2]
  simp
def usL : List Value := [(Value.string (ByteArray.mk (Array.mk [(97 : UInt8)]))), (Value.string (ByteArray.mk (Array.mk [(98 : UInt8)]))), (Value.string (ByteArray.mk (Array.mk [(99 : UInt8)]))), (Value.string (ByteArray.mk (Array.mk []))), (Value.string (ByteArray.mk (Array.mk [(111 : UInt8), (110 : UInt8), (101 : UInt8), (32 : UInt8), (116 : UInt8), (104 : UInt8), (97 : UInt8), (116 : UInt8), (32 : UInt8), (105 : UInt8), (115 : UInt8), (32 : UInt8), (116 : UInt8), (111 : UInt8), (111 : UInt8), (32 : UInt8), (108 : UInt8), (111 : UInt8), (110 : UInt8), (103 : UInt8)])))]
theorem us_ok (n : Int) {i : Nat} (hi : i < 5) : badR (eS usL i) n ∨ eS usL i ∈ nms := by
  match i, hi with
  | 0, _ => exact .inr List.mem_cons_self
  | 1, _ => exact .inr (List.mem_cons_of_mem _ List.mem_cons_self)
  | 2, _ => exact .inr (List.mem_cons_of_mem _ (List.mem_cons_of_mem _ List.mem_cons_self))
  | 3, _ => exact .inl (.inl (show ((0 : Nat) : Int) < 1 by decide))
  | 4, _ => exact .inl (.inr (.inl (show (16 : Int) < ((20 : Nat) : Int) by decide)))
theorem ft_absurd {b : Bool} {p : Prop} (h : b = true) (h2 : b = false) : p := by rw [h] at h2; cases h2
theorem ft_absurd2 {b : Bool} {p : Prop} (h : b = false) (h2 : b = true) : p := by rw [h] at h2; cases h2
macro "rtgo" r:term:max q:term:max : tactic => `(tactic| repeat' first
  | contradiction | trivial | assumption | exact tl_eq _ | exact RK.okS $r | exact RK.lenS $r | exact $q | exact tl_fl (by omega) (by omega) | rfl | omega
  | exact ft_absurd (by assumption) (by assumption) | exact ft_absurd2 (by assumption) (by assumption) | (refine And.intro ?_ ?_) | (intro _))
set_option maxHeartbeats 0 in
theorem rt_run (ps : List Value) (hps : AsksOk ps) : Holds (runP std (rtCon std kvF rtF) 90 (rtLs ps (rtI ps) rtMA (rtJ ps) rtMB) rtP 8 Try.f8 (ps, ())) := by
  constructor
  refine (rt_vc kvF rtF ps _ _ _ _).mpr ?_
  unfold rt_vc_M rtUsr
  refine ⟨{ i := 0, s := 0, p := 0, a := 0, h := false, es := [] }, rfl, ⟨0, [], rfl, by omega, Nat.zero_le _, rk0⟩, fun d10 => fun ⟨i, A, hi, h40, hin, R⟩ => ⟨fun h2 => ⟨fun h3 => ?_, fun h50 => rfl⟩, fun h51 => rfl⟩⟩
  have h2 := of_decide_eq_true h2
  have h3 := of_decide_eq_true h3
  have hin : i < ps.length := by omega
  have h40 : i < 40 := by omega
  have eti : Int.toNat d10.i = i := by rw [hi, Int.toNat_natCast]
  have a0 := hps i hin 1 (by omega)
  have a2 := hps i hin 2 (by omega)
  rw [eti]
  have hw := wi_in2 (n := std.dint (std.fld (std.get zAsk ps i) 1)) (lo := 0) (hi := 4) (by omega)
  generalize kvF.wi (std.dint (std.fld (std.get zAsk ps i) 1)) 0 4 = W at hw ⊢
  have hu : ∀ n, badR (eS usL (Int.toNat W)) n ∨ eS usL (Int.toNat W) ∈ nms := fun n => us_ok n (by omega)
  show _ ∧ _
  change ((0 : Int) ≤ d10.i ∧ d10.i < _) ∧ _
  have hU : eS usL (Int.toNat W) = eS [(Value.string (ByteArray.mk (Array.mk [(97 : UInt8)]))), (Value.string (ByteArray.mk (Array.mk [(98 : UInt8)]))), (Value.string (ByteArray.mk (Array.mk [(99 : UInt8)]))), (Value.string (ByteArray.mk (Array.mk []))), (Value.string (ByteArray.mk (Array.mk [(111 : UInt8), (110 : UInt8), (101 : UInt8), (32 : UInt8), (116 : UInt8), (104 : UInt8), (97 : UInt8), (116 : UInt8), (32 : UInt8), (105 : UInt8), (115 : UInt8), (32 : UInt8), (116 : UInt8), (111 : UInt8), (111 : UInt8), (32 : UInt8), (108 : UInt8), (111 : UInt8), (110 : UInt8), (103 : UInt8)])))] (Int.toNat W) := rfl
  rw [← hU]
  generalize eS usL (Int.toNat W) = U at hu ⊢
  clear hU
  generalize std.dint (std.fld (std.get zAsk ps i) 2) = N at a2 ⊢
  generalize std.dint (std.fld (std.get zAsk ps i) 1) = w at a0 ⊢
  generalize std.dint (std.fld (std.get zAsk ps i) 0) = k
  have b1 := R.s0
  have b2 := R.p0
  have b3 := R.sp
  have b4 := R.a0
  have b5 := R.a1
  refine ⟨by omega, ⟨by omega, ⟨⟨by omega, by show W < 5; omega⟩, ⟨by omega, ⟨trivial, ⟨fun h4 => ?_, fun h11 => ⟨fun h12 => ?_, fun h19 => ⟨fun h20 => ⟨by omega, ⟨fun h21 => ?_, fun h28 => ⟨by omega, ⟨fun h29 => ?_, fun h36 => ?_⟩⟩⟩⟩, fun h39 => ⟨fun h40 => ?_, fun h43 => ?_⟩⟩⟩⟩⟩⟩⟩⟩⟩
  · obtain ⟨A', R'⟩ : ∃ A', RK A' d10.s (rtF.mP U N d10.s d10.p d10.a d10.h d10.es) (rtF.mA U N d10.s d10.p d10.a d10.h d10.es) (rtF.mM U N d10.s d10.p d10.a d10.h d10.es) := R.mint d10.h (hu N)
    have hk : (k = 1 ∨ k = 2) → 0 < d10.a → (d10.s + d10.p) * rtF.mA U N d10.s d10.p d10.a d10.h d10.es ≤ (d10.s + rtF.mP U N d10.s d10.p d10.a d10.h d10.es) * d10.a := fun _ h0 => mint_rate h0 R.s0 R.p0
    have ok := R.okM U N
    have ok : rtF.okM U N d10.s d10.p d10.a d10.es := ok
    have c2 := R'.p0
    have c3 := R'.sp
    have c4 := R'.a0
    have c5 := R'.a1
    have L := rlp_ok ps d10 i A A' hi h40 hin R d10.h R' k w N hk
    rtgo R' L
  · obtain ⟨A', R'⟩ : ∃ A', RK A' d10.s (rtF.rP U N d10.s d10.p d10.a d10.h d10.es) (rtF.rA U N d10.s d10.p d10.a d10.h d10.es) (rtF.rM U N d10.s d10.p d10.a d10.h d10.es) := R.red d10.h (hu N)
    have hk : (k = 1 ∨ k = 2) → 0 < d10.a → (d10.s + d10.p) * rtF.rA U N d10.s d10.p d10.a d10.h d10.es ≤ (d10.s + rtF.rP U N d10.s d10.p d10.a d10.h d10.es) * d10.a := fun _ h0 => red_rate b4 R.s0 R.p0
    have ok := R.okM U N
    have ok : rtF.okM U N d10.s d10.p d10.a d10.es := ok
    have c2 := R'.p0
    have c3 := R'.sp
    have c4 := R'.a0
    have c5 := R'.a1
    have L := rlp_ok ps d10 i A A' hi h40 hin R d10.h R' k w N hk
    rtgo R' L
  all_goals
    have hk0 : ¬ (k = 1 ∨ k = 2) := by
      have h11 := h11
      have h19 := h19
      simp only [beq_eq_false_iff_ne, ne_eq] at h11 h19
      omega
  · have h21 := of_decide_eq_true h21
    have e1 : rtF.bS N d10.s d10.p = d10.s := if_pos (.inl h21)
    have e2 : rtF.bH N d10.p d10.h = d10.h := if_pos (.inl h21)
    have e3 : rtF.bE N d10.p = 11 := if_pos (.inl h21)
    rw [e1, e2, e3]
    have L := rlp_ok ps d10 i A A hi h40 hin R d10.h R k w N fun h => absurd h hk0
    rtgo R L
  · have h29 := of_decide_eq_true h29
    have e1 : rtF.bS N d10.s d10.p = d10.s := if_pos (.inr h29)
    have e2 : rtF.bH N d10.p d10.h = d10.h := if_pos (.inr h29)
    have e3 : rtF.bE N d10.p = 11 := if_pos (.inr h29)
    rw [e1, e2, e3]
    have L := rlp_ok ps d10 i A A hi h40 hin R d10.h R k w N fun h => absurd h hk0
    rtgo R L
  · have h28 := of_decide_eq_false h28
    have h36 := of_decide_eq_false h36
    have hn : ¬ (N < 0 ∨ 1073741824 - d10.p < N) := by omega
    have e1 : rtF.bS N d10.s d10.p = N := if_neg hn
    have e2 : rtF.bH N d10.p d10.h = false := if_neg hn
    have e3 : rtF.bE N d10.p = 0 := if_neg hn
    rw [e1, e2, e3]
    have R' : RK A N d10.p d10.a d10.es := R.other (by omega) (by omega)
    have L := rlp_ok ps d10 i A A hi h40 hin R false R' k w N fun h => absurd h hk0
    rtgo R' L
  · have L := rlp_ok ps d10 i A A hi (by omega) hin R true R k w N fun h => absurd h hk0
    rtgo R L
  · have L := rlp_ok ps d10 i A A hi h40 hin R d10.h R k w N fun h => absurd h hk0
    rtgo R L
noncomputable def rtQ : PF := pf (.cons cAsks .nil) (fun d => AsksOk d.1) [.bool false] fun _ => [.bool true]
theorem rtq_ok : PFOk Try.prog 8 rtQ :=
  pf_ok (LS := fun d => rtLs d.1 (rtI d.1) rtMA (rtJ d.1) rtMB) Try.progOk rtCon_ok (inCallF_ok 60) rtQ Try.func8 (show _ = some (bodyS Try.prog 8) by kernel_rfl) fun d hd => by
    obtain ⟨xs, u⟩ := d
    obtain ⟨h⟩ := rt_run xs hd
    exact h
theorem ratePlays_calls (w : World) (v0 : Value) (h0 : SlIn w zAsk v0) : Calls Try.prog 8 #[v0] w fun e w' => Below w.heap.size w w' ∧ e = .returned (.bool true) := by
  obtain ⟨l0, _, i0, d0⟩ := h0
  exact law_pf Try.progOk Try.func8 (show _ = some (bodyS Try.prog 8) by kernel_rfl) rtq_ok rfl (d := (l0, ())) (sl_asks i0) rfl (xs := [dsl zAsk l0]) (by kernel_rfl) (All2.cons d0 All2.nil)
set_option maxRecDepth 100000 in
theorem ratePlays_lifted (os : Os) (started : os.Started) (H : Type) (enc : TypeId × Value → H) :
    ReturnsInHanded {} Try.checked os 8 .any (Rows.ratePlaysSpec.pre6 enc Try.prog Try.f8 Rows.ratePlaysRow.domain false) (Rows.ratePlaysSpec.post enc Try.prog Try.f8 false true false false) := by
  refine returnsInHanded_of_change (C := Try.checked) Try.own started (by kernel_rfl) Try.func8
    (ChangeSpec.witness6 (enc := enc) (C := Try.checked) false ⟨#[], #[.slice none 0 0], []⟩ 40 (by kernel_rfl) (by kernel_rfl) (by kernel_rfl) (by kernel_rfl)) ?_
  intro W base args ds gs before hval0 hW hcnd _
  have hval : ∀ (j : Nat) t v, Try.f8.params[j]? = some t → args[j]? = some v → Value.okWide Try.prog W .any base t v := hval0
  have hW' := hW
  obtain ⟨p, q, hA0, hV, rfl, hfz, hnd⟩ := hW
  have hA : DataW.TrodAll enc Try.prog W 0 (fun _ => true) true Try.f8.params.toList args.toList ds p := hA0
  rw [Try.params8] at hA hval
  have hAk := hA
  obtain ⟨v0, d0, p0, rfl, rfl, rfl, h0⟩ := trodAll_one' hA
  obtain ⟨rfl, rfl⟩ := trodVars_none hV
  have in0 : SlIn W zAsk v0 := arg_slice (n := 8) (by kernel_rfl) (by decide +kernel) Try.underlying43 (by kernel_rfl) (hval 0 43 v0 rfl rfl) h0
  clear hA0 hval0
  have hlt : ∀ x ∈ p0 ++ ([] : List MemPlace), x.block < W.heap.size := fun x hx => hW'.lt x (by simpa using hx)
  refine (ratePlays_calls W v0 in0).mono fun e W' ⟨hb, he⟩ => ?_
  subst he
  exact ⟨_, rfl, post_below (pa := p0 ++ []) (pv := []) hW' (fun _ _ _ => trodAll_mk1 (shut_bool Try.underlying4 true)) (fun sp hsp => trodAll_stays (by kernel_rfl) hb (by decide +kernel) hAk hlt (fun x hx => hsp x (by simpa using hx))) (fun _ _ => rfl) (by simp) hb (ok_one (by kernel_rfl) rfl (okWide_bool_mk Try.underlying4 true))⟩

theorem ratePlays_holds : Rows.RatePlaysSaid :=
  OpenClaim.holds_of_wide 8 Try.f8 rfl rfl rfl rfl rfl rfl rfl ⟨rfl, rfl, rfl, rfl, rfl⟩ rfl rfl rfl rfl rfl (by kernel_rfl) Try.func8 (by kernel_rfl)
    (of_decide_eq_true (by kernel_rfl)) (by unfold Func.isWrapper; first | (rw [if_pos (by decide +kernel)]; kernel_rfl) | (rw [if_neg (by decide +kernel)]; exact ⟨rfl, rfl⟩))
    (fun os started H enc _ => ratePlays_lifted os started H enc)
end Go.Proofs.Ytddejgkfgnokgaa
end
