/-
  SHAPES: a state up to what is not known and what is not needed; a state that has a shape stands for what that shape, filled, stands for.
-/
import Derived.Test.YtolkoacllaaceaaAbsF
namespace Go.Abs
open Go

noncomputable section

/-- What fills a hole. -/
inductive Filler where
  | val (v : Value)
  | row (r : Row)
  | sl (o n : Nat)
  | dl (xs : List Value)

/-- Values of one cell: told; a number, a text; a pointer; a slice of unknown length; a slice; a map. -/
inductive S0 where
  | lit (v : Value)
  | hole
  | ptr (j o : Nat)
  | sl (j cap : Nat)
  | csl (j o n cap : Nat)
  | map (j : Nat)
  | deep (z : Value)
  | osl (j : Nat) (z : Value)
  | boo
inductive S1 where
  | zero (s : S0)
  | func (f : Fn) (a b : List S0)
  | iface (t : TypeId) (s : S0)
inductive SA where
  | one (s : S1)
  | agg (l : List S1)
structure SE where
  key : Value
  born : Nat
  val : SA
inductive SB where
  | cells (l : List S1) (ro : Bool)
  | row (like : Row) (ro : Bool)
  | map (l : List SE) (clock : Nat)
  | tok
structure Shape where
  slots : List (Option SA)
  blocks : List (Option SB)

def isScal : Value → Bool
  | .int .. | .float .. | .complex .. | .string _ => true
  | _ => false

abbrev Rho := List Nat
abbrev DV := Value → Value → Option (List Value)

def S0.mat (dv : DV) (ρ : Rho) (s : S0) (v : Value) : Option (List Filler) :=
  match s with
  | .lit u => if plain1 u && vbeq1 u v then some [] else none
  | .hole => if isScal (den v) then some [.val (den v)] else none
  | .ptr j o => match v with
    | .pointer (some ⟨b, o', none⟩) => if o = o' ∧ ρ[j]? = some b then some [] else none
    | _ => none
  | .sl j cap => match den v with
    | .slice (some ⟨b, o, none⟩) n k => if ρ[j]? = some b ∧ (k = cap ∨ (k = 0 ∧ UNK0 ≤ cap)) then some [.sl o n] else none
    | _ => none
  | .csl j o n cap => match v with
    | .slice (some ⟨b, o', none⟩) n' k => if o = o' ∧ n = n' ∧ k = cap ∧ ρ[j]? = some b then some [] else none
    | _ => none
  | .map j => match v with
    | .map (some b) => if ρ[j]? = some b then some [] else none
    | _ => none
  | .deep z => (dv z v).map fun xs => [.dl xs]
  | .osl j z => match v with
    | .func (.yield 5) f xs => match f.toList with
      | [z0, .slice none b 0] => if zeq 5 z0 z && ρ[j]? == some b then some [.dl xs.toList] else none
      | [z0, .slice none _ 1] => if zeq 5 z0 z then some [.dl xs.toList] else none
      | _ => none
    | .slice none 0 0 => some [.dl []]
    | _ => none
  | .boo => match v with
    | .bool b => some [.val (.bool b)]
    | .func (.yield 3) f _ => match f.toList with
      | [.bool b] => some [.val (.bool b)]
      | _ => none
    | _ => none
def S0.fill (f : Nat → Nat) (s : S0) (fs : List Filler) : Option (Value × List Filler) :=
  match s, fs with
  | .lit u, fs => if plain1 u then some (u, fs) else none
  | .hole, .val v :: r => if isScal v then some (mk v, r) else none
  | .ptr j o, fs => some (.pointer (some ⟨f j, o, none⟩), fs)
  | .sl j cap, .sl o n :: r => some (mk (.slice (some ⟨f j, o, none⟩) n cap), r)
  | .csl j o n cap, fs => some (.slice (some ⟨f j, o, none⟩) n cap, fs)
  | .map j, fs => some (.map (some (f j)), fs)
  | .deep z, .dl xs :: r => some (dsl z xs, r)
  | .osl j z, .dl xs :: r => some (Abs.osl z xs (f j), r)
  | .boo, .val v :: r => some (mkb (dbool v), r)
  | _, _ => none

/-- Of a list, one behind the other. -/
def matL {α : Type} (m : α → Value → Option (List Filler)) : List α → List Value → Option (List Filler)
  | [], [] => some []
  | a :: l, v :: vs => match m a v, matL m l vs with
    | some x, some y => some (x ++ y)
    | _, _ => none
  | _, _ => none
def fillL {α β : Type} (f : α → List Filler → Option (β × List Filler)) : List α → List Filler → Option (List β × List Filler)
  | [], fs => some ([], fs)
  | a :: l, fs => match f a fs with
    | some (b, fs) => match fillL f l fs with
      | some (bs, fs) => some (b :: bs, fs)
      | none => none
    | none => none

def S1.mat (dv : DV) (ρ : Rho) (s : S1) (v : Value) : Option (List Filler) :=
  match s with
  | .zero s => s.mat dv ρ v
  | .func f a b => match v with
    | .func f' x y => if !isYield f && decide (f = f') then match matL (S0.mat dv ρ) a x.toList, matL (S0.mat dv ρ) b y.toList with
      | some p, some q => some (p ++ q)
      | _, _ => none
      else none
    | _ => none
  | .iface t s => match v with
    | .iface t' v => if t = t' then s.mat dv ρ v else none
    | _ => none
def S1.fill (g : Nat → Nat) (s : S1) (fs : List Filler) : Option (Value × List Filler) :=
  match s with
  | .zero s => s.fill g fs
  | .func f a b => if isYield f then none else match fillL (S0.fill g) a fs with
    | some (x, fs) => match fillL (S0.fill g) b fs with
      | some (y, fs) => some (.func f x.toArray y.toArray, fs)
      | none => none
    | none => none
  | .iface t s => match s.fill g fs with
    | some (v, fs) => some (.iface t v, fs)
    | none => none
def SA.mat (dv : DV) (ρ : Rho) (s : SA) (v : Value) : Option (List Filler) :=
  match s with
  | .one s => s.mat dv ρ v
  | .agg l => match v with
    | .agg cs => matL (S1.mat dv ρ) l cs.toList
    | _ => none
def SA.fill (g : Nat → Nat) (s : SA) (fs : List Filler) : Option (Value × List Filler) :=
  match s with
  | .one s => s.fill g fs
  | .agg l => match fillL (S1.fill g) l fs with
    | some (x, fs) => some (.agg x.toArray, fs)
    | none => none
def slotMat (dv : DV) (ρ : Rho) (s : Option SA) (v : Value) : Option (List Filler) :=
  match s with
  | none => some []
  | some s => s.mat dv ρ v
def slotFill (g : Nat → Nat) (s : Option SA) (fs : List Filler) : Option (Value × List Filler) :=
  match s with
  | none => some (dead, fs)
  | some s => s.fill g fs

def entryMat (dv : DV) (ρ : Rho) (s : SE) (e : MapEntry) : Option (List Filler) :=
  if plain1 s.key && vbeq1 s.key e.key && s.born == e.born then s.val.mat dv ρ e.val else none
def entriesMat (dv : DV) (ρ : Rho) : List SE → List MapEntry → Option (List Filler)
  | [], [] => some []
  | a :: l, v :: vs => match entryMat dv ρ a v, entriesMat dv ρ l vs with
    | some x, some y => some (x ++ y)
    | _, _ => none
  | _, _ => none
def entryFill (g : Nat → Nat) (s : SE) (fs : List Filler) : Option (MapEntry × List Filler) :=
  match s.val.fill g fs with
  | some (v, fs) => some ({ key := s.key, val := v, born := s.born }, fs)
  | none => none

def roOk (wk ro ro' : Bool) : Bool := ro == ro' || (wk && ro)
def SB.mat (dv : DV) (wk : Bool) (ρ : Rho) (s : SB) (x : Blk) : Option (List Filler) :=
  match s, x with
  | .cells l ro, .cells cs ro' => if roOk wk ro ro' then matL (S1.mat dv ρ) l cs else none
  | .row _ ro, .row r ro' => if roOk wk ro ro' then some [.row r] else none
  | .row like ro, .cells cs ro' => if roOk wk ro ro' then (rowLike like cs).map fun r => [.row r] else none
  | .map l ck, .map es ck' => if ck = ck' then entriesMat dv ρ l es else none
  | .tok, .cells [] false => some []
  | _, _ => none
def SB.fill (g : Nat → Nat) (s : SB) (fs : List Filler) : Option (Blk × List Filler) :=
  match s with
  | .cells l ro => match fillL (S1.fill g) l fs with
    | some (x, fs) => some (.cells x ro, fs)
    | none => none
  | .row _ ro => match fs with
    | .row r :: fs => some (.row r ro, fs)
    | _ => none
  | .map l ck => match fillL (entryFill g) l fs with
    | some (x, fs) => some (.map x ck, fs)
    | none => none
  | .tok => some (.cells [] false, fs)
def SB.isTok : SB → Bool
  | .tok => true
  | _ => false
def blockMat (dv : DV) (wk : Bool) (ρ : Rho) (h : Hp) (s : Option SB) (b : Nat) : Option (List Filler) :=
  match s with
  | none => some []
  | some s => match h.get b with
    | some x => s.mat dv wk ρ x
    | none => if s.isTok && decide (h.next ≤ b) then some [] else none
def blocksMat (dv : DV) (wk : Bool) (ρ : Rho) (h : Hp) : List (Option SB) → List Nat → Option (List Filler)
  | [], [] => some []
  | a :: l, v :: vs => match blockMat dv wk ρ h a v, blocksMat dv wk ρ h l vs with
    | some x, some y => some (x ++ y)
    | _, _ => none
  | _, _ => none
def blockFill (g : Nat → Nat) (s : Option SB) (fs : List Filler) : Option (Option Blk × List Filler) :=
  match s with
  | none => some (none, fs)
  | some s => match s.fill g fs with
    | some (x, fs) => some (some x, fs)
    | none => none

/-- A heap of such blocks. -/
def Hp.pushO (h : Hp) (x : Option Blk) : Hp := ⟨h.next + 1, Tr.put (h.next + 1) h.tab h.next x⟩
def Hp.from (h : Hp) : List (Option Blk) → Hp
  | [] => h
  | x :: l => (h.pushO x).from l

theorem Hp.get_pushO (h : Hp) (x : Option Blk) (b : Nat) : (h.pushO x).get b = if b = h.next then x else h.get b := by
  unfold Hp.get Hp.pushO
  simp only [Tr.get_put _ _ _ _ _ (Nat.lt_succ_self h.next)]
  by_cases e : b = h.next
  · subst e; simp
  · by_cases hl : b < h.next
    · simp [e, hl]; omega
    · simp [e, hl]; omega
theorem Hp.from_next : ∀ (l : List (Option Blk)) (h : Hp), (h.from l).next = h.next + l.length
  | [], h => by show h.next = _; simp
  | x :: l, h => by
    show ((h.pushO x).from l).next = _
    rw [Hp.from_next l, List.length_cons]; show h.next + 1 + l.length = _; omega
theorem Hp.from_get : ∀ (l : List (Option Blk)) (h : Hp) (b : Nat), (h.from l).get b = if b < h.next then h.get b else (l[b - h.next]?).join
  | [], h, b => by
    show h.get b = _
    split
    · rfl
    · unfold Hp.get; rw [if_neg (by assumption)]; simp
  | x :: l, h, b => by
    show ((h.pushO x).from l).get b = _
    rw [Hp.from_get l]
    have hn : (h.pushO x).next = h.next + 1 := rfl
    rw [hn]
    by_cases h1 : b < h.next
    · rw [if_pos (by omega), if_pos h1, Hp.get_pushO, if_neg (by omega)]
    · rw [if_neg h1]
      by_cases h2 : b = h.next
      · subst h2
        rw [if_pos (by omega), Hp.get_pushO, if_pos rfl, Nat.sub_self]; rfl
      · rw [if_neg (by omega), show b - h.next = (b - (h.next + 1)) + 1 from by omega, List.getElem?_cons_succ]

def hpOf (l : List (Option Blk)) : Hp := Hp.from ⟨0, .leaf⟩ l
theorem hpOf_next (l : List (Option Blk)) : (hpOf l).next = l.length := by
  unfold hpOf; rw [Hp.from_next]; simp
theorem hpOf_get (l : List (Option Blk)) (b : Nat) : (hpOf l).get b = (l[b]?).join := by
  unfold hpOf; rw [Hp.from_get]; simp

/-- Which blocks may be frozen: those that are not kept as the state's own. -/
def okF (ρ : Rho) (b : Nat) : Bool := !ρ.contains b
/-- Has a state a shape? What fills it. -/
def Shape.matD (dv : DV) (wk : Bool) (sh : Shape) (ρ : Rho) (s : St) : Option (List Filler) :=
  match matL (slotMat dv ρ) sh.slots s.tmps, blocksMat dv wk ρ s.h sh.blocks ρ with
  | some x, some y => some (x ++ y)
  | _, _ => none
def Shape.mat (wk : Bool) (sh : Shape) (ρ : Rho) (s : St) : Option (List Filler) := sh.matD (deepV s.h (okF ρ) 6) wk ρ s
def Shape.fill (sh : Shape) (fs : List Filler) : Option St :=
  match fillL (slotFill id) sh.slots fs with
  | some (tmps, fs) => match fillL (blockFill id) sh.blocks fs with
    | some (bs, _) => some ⟨tmps, hpOf bs⟩
    | none => none
  | none => none

/-- Which blocks a state's own are, told by its shape: found by walking both. -/
abbrev Found := List (Option Nat)
def S0.find (s : S0) (v : Value) (acc : Found) : Found :=
  match s with
  | .ptr j _ => match v with
    | .pointer (some a) => acc.set j (some a.block)
    | _ => acc
  | .sl j _ => match den v with
    | .slice (some a) _ _ => acc.set j (some a.block)
    | _ => acc
  | .csl j _ _ _ => match v with
    | .slice (some a) _ _ => acc.set j (some a.block)
    | _ => acc
  | .map j => match v with
    | .map (some b) => acc.set j (some b)
    | _ => acc
  | .osl j _ => match v with
    | .func (.yield 5) f _ => match f.toList with
      | [_, .slice none b 0] => acc.set j (some b)
      | _ => acc
    | _ => acc
  | _ => acc
def findL {α : Type} (f : α → Value → Found → Found) : List α → List Value → Found → Found
  | a :: l, v :: vs, acc => findL f l vs (f a v acc)
  | _, _, acc => acc
def S1.find (s : S1) (v : Value) (acc : Found) : Found :=
  match s with
  | .zero s => s.find v acc
  | .func _ a b => match v with
    | .func _ x y => findL S0.find b y.toList (findL S0.find a x.toList acc)
    | _ => acc
  | .iface _ s => match v with
    | .iface _ v => s.find v acc
    | _ => acc
def SA.find (s : SA) (v : Value) (acc : Found) : Found :=
  match s with
  | .one s => s.find v acc
  | .agg l => match v with
    | .agg cs => findL S1.find l cs.toList acc
    | _ => acc
def slotFind (s : Option SA) (v : Value) (acc : Found) : Found :=
  match s with
  | none => acc
  | some s => s.find v acc
def entriesFind : List SE → List MapEntry → Found → Found
  | a :: l, e :: es, acc => entriesFind l es (a.val.find e.val acc)
  | _, _, acc => acc
def SB.find (s : SB) (x : Blk) (acc : Found) : Found :=
  match s, x with
  | .cells l _, .cells cs _ => findL S1.find l cs acc
  | .map l _, .map es _ => entriesFind l es acc
  | _, _ => acc
def blocksFind (h : Hp) : List (Option SB) → Nat → Found → Found
  | [], _, acc => acc
  | s :: l, j, acc => blocksFind h l (j + 1) (match s, (acc[j]?).join with
    | some s, some b => match h.get b with
      | some x => s.find x acc
      | none => acc
    | _, _ => acc)
/-- k: the blocks that are protected. -/
def Shape.find (sh : Shape) (k : Nat) (s : St) : Rho :=
  (blocksFind s.h sh.blocks 0 (findL slotFind sh.slots s.tmps ((List.range sh.blocks.length).map fun i => if i < k then some i else none))).zipIdx.map fun p => p.1.getD (s.h.next + p.2)
/-- Slots by number. -/
def slotsOf (n : Nat) (l : List (Nat × SA)) : List (Option SA) := (List.range n).map fun i => (l.find? fun x => x.1 == i).map (·.2)
end

section
variable {μ : Mu} {ρ : Rho} {dv : DV} {z1 : Nat → Nat → Option Value}

/-- The places of a shape's blocks. -/
def muOf (μ : Mu) (z1 : Nat → Nat → Option Value) (ρ : Rho) : Mu := ⟨fun j => (ρ[j]?).bind μ, z1⟩

theorem vbeq1_plain {u v : Value} (h : vbeq1 u v = true) : u = v := vbeq1_eq h

theorem isScal_mark {v : Value} (h : isScal v = true) : markable v = true ∧ plain1 v = true := by cases v <;> first | (simp [isScal] at h; done) | exact ⟨rfl, rfl⟩

theorem VR0.den {v v' : Value} (h : VR0 μ v v') : VR0 μ (Abs.den v) v' := by
  rcases den_cases v with e | ⟨w, rfl, hm, e⟩
  · rw [e]; exact h
  · rw [e]
    cases h with
    | mark h _ => exact h
    | plain hp => simp [Abs.plain1, mk] at hp

theorem mkb_inv {f y : Array Value} {b : Bool} {v' : Value} (hf : f.toList = [.bool b]) (h0 : VR0 μ (.func (.yield 3) f y) v') : v' = .bool b := by
  have e : f = #[.bool b] := by rw [← Array.toList_inj, hf]
  subst e
  generalize hv : Value.func (Fn.yield 3) #[Value.bool b] y = d at h0
  cases h0 with
  | plain hp => subst hv; simp [plain1] at hp
  | mbool => simp [mkb] at hv; rw [hv.1]
  | mark _ _ => simp [mk] at hv
  | deep _ => simp [dsl] at hv
  | osl _ _ _ => simp [Abs.osq] at hv
  | fptr _ _ _ => simp [Abs.fptr] at hv
  | rptr _ => simp [Abs.rptr] at hv
  | _ => cases hv
/-- What is frozen, and what that makes of slices. -/
structure DvOk (μ : Mu) (dv : DV) (z1 : Nat → Nat → Option Value) : Prop where
  le : ∀ c i a, μ.z c i = some a → z1 c i = some a
  ok : ∀ {z v v' xs}, dv z v = some xs → VR1 μ v v' → DR z1 (dsl z xs) v'
  one : ∀ {z v xs}, dv z v = some xs → v.oneCell' = true
theorem DvOk.not {z v : Value} (hD : DvOk μ dv z1) (h : v.oneCell' = false) : dv z v = none := by
  cases e : dv z v with
  | none => rfl
  | some xs => rw [hD.one e] at h; cases h
theorem s0_ok0 (hD : DvOk μ dv z1) {s : S0} {v v' : Value} {fs : List Filler} (h : s.mat dv ρ v = some fs) (r : VR0 μ v v') (rest : List Filler) : ∃ v0, s.fill id (fs ++ rest) = some (v0, rest) ∧ VR0 (muOf μ z1 ρ) v0 v' := by
  unfold S0.mat at h
  split at h
  · split at h
    · rename_i hc
      simp only [Bool.and_eq_true] at hc
      simp only [Option.some.injEq] at h; subst h
      have := vbeq1_plain hc.2; subst this
      have := r.eq_of_plain hc.1; subst this
      exact ⟨_, if_pos hc.1, .plain hc.1⟩
    · cases h
  · split at h
    · rename_i hs
      simp only [Option.some.injEq] at h; subst h
      obtain ⟨hm, hp⟩ := isScal_mark hs
      have := r.den.eq_of_plain hp
      exact ⟨_, if_pos hs, .mark (by rw [this]; exact .plain hp) hm⟩
    · cases h
  · split at h
    · rename_i b o'
      split at h
      · rename_i hc
        simp only [Option.some.injEq] at h; subst h
        obtain ⟨rfl, hj⟩ := hc
        cases r with
        | ptr hp => exact ⟨_, rfl, .ptr (by unfold muOf; simp only [id, hj]; exact hp)⟩
        | plain hp => simp [plain1] at hp
      · cases h
    · cases h
  · split at h
    · rename_i b o n k hd
      split at h
      · rename_i hc
        simp only [Option.some.injEq] at h; subst h
        obtain ⟨hj, hk⟩ := hc
        have r := r.den
        rw [hd] at r
        refine ⟨_, rfl, .mark ?_ rfl⟩
        rcases hk with rfl | ⟨rfl, hcap⟩
        · cases r with
          | slice hp h1 h2 => exact .slice (by unfold muOf; simp only [id, hj]; exact hp) h1 h2
          | slice0 hp h1 => exact .slice0 (by unfold muOf; simp only [id, hj]; exact hp) h1
          | plain hp => simp [plain1] at hp
        · cases r with
          | slice hp h1 h2 =>
            rcases h2 with ⟨h3, _⟩ | ⟨h3, _⟩
            · exact absurd h3 (by decide)
            · subst h3
              have h4 : n = 0 := by omega
              subst h4
              exact .slice0 (by unfold muOf; simp only [id, hj]; exact hp) (.inl hcap)
          | slice0 hp h1 => exact .slice0 (by unfold muOf; simp only [id, hj]; exact hp) (.inl hcap)
          | plain hp => simp [plain1] at hp
      · cases h
    · cases h
  · split at h
    · rename_i b o' n' k
      split at h
      · rename_i hc
        simp only [Option.some.injEq] at h; subst h
        obtain ⟨rfl, rfl, rfl, hj⟩ := hc
        refine ⟨_, rfl, ?_⟩
        cases r with
        | slice hp h1 h2 => exact .slice (by unfold muOf; simp only [id, hj]; exact hp) h1 h2
        | slice0 hp h1 => exact .slice0 (by unfold muOf; simp only [id, hj]; exact hp) h1
        | plain hp => simp [plain1] at hp
      · cases h
    · cases h
  · split at h
    · rename_i b
      split at h
      · rename_i hj
        simp only [Option.some.injEq] at h; subst h
        cases r with
        | map hp => exact ⟨_, rfl, .map (by unfold muOf; simp only [id, hj]; exact hp)⟩
        | plain hp => simp [plain1] at hp
      · cases h
    · cases h
  · rename_i z
    cases e : dv z v with
    | none => rw [e] at h; cases h
    | some xs =>
      rw [e] at h
      simp only [Option.map_some, Option.some.injEq] at h; subst h
      exact ⟨_, rfl, .deep (hD.ok e (.zero r))⟩
  · rename_i j z
    split at h
    · rename_i f ys
      split at h
      · rename_i z0 b hf
        split at h
        · rename_i hc
          simp only [Option.some.injEq] at h; subst h
          simp only [Bool.and_eq_true, beq_iff_eq] at hc
          obtain ⟨hz, hj⟩ := hc
          have := zeq_eq hz; subst this
          have hf : f = #[z0, .slice none b 0] := by rw [← Array.toList_inj, hf]
          subst hf
          have e : Value.func (Fn.yield 5) #[z0, .slice none b 0] ys = osl z0 ys.toList b := by simp [osl, osq]
          rw [e] at r
          refine ⟨_, rfl, ?_⟩
          generalize hg : osl z0 ys.toList b = d at r
          cases r with
          | osl hd h1 h2 =>
            simp [Abs.osl, Abs.osq] at hg
            obtain ⟨⟨rfl, rfl, rfl⟩, h3⟩ := hg
            subst h3
            refine .osl (by have := hd.mono hD.le; simpa [muOf] using this) (by simpa using h1) (h2.imp id fun ⟨hq, p, c, o, h3, h4, h5⟩ => ⟨hq, p, c, o, h3, ?_, h5⟩)
            show (ρ[j]?).bind μ.f = some p
            rw [hj]; exact h4
          | plain hp => subst hg; simp [plain1, Abs.osl, Abs.osq] at hp
          | mark _ _ => simp [Abs.osl, Abs.osq, mk] at hg
          | deep _ => simp [Abs.osl, Abs.osq, dsl] at hg
          | fptr _ _ _ => simp [Abs.fptr, Abs.osl, Abs.osq] at hg
          | rptr _ => simp [Abs.rptr, Abs.osl, Abs.osq] at hg
          | mbool => simp [mkb, Abs.osl, Abs.osq] at hg
          | _ => cases hg
        · cases h
      · rename_i z0 b hf
        split at h
        · rename_i hz
          simp only [Option.some.injEq] at h; subst h
          have := zeq_eq hz; subst this
          have hf : f = #[z0, .slice none b 1] := by rw [← Array.toList_inj, hf]
          subst hf
          have e : Value.func (Fn.yield 5) #[z0, .slice none b 1] ys = osq z0 ys.toList b 1 := by simp [osq]
          rw [e] at r
          refine ⟨_, rfl, ?_⟩
          generalize hg : osq z0 ys.toList b 1 = d at r
          cases r with
          | osl hd h1 h2 =>
            simp [Abs.osq] at hg
            obtain ⟨⟨rfl, rfl, rfl⟩, h3⟩ := hg
            subst h3
            refine .osl (by have := hd.mono hD.le; simpa [muOf] using this) (by simpa using h1) (.inl ?_)
            rcases h2 with h2 | ⟨h2, _⟩
            · exact h2
            · cases h2
          | plain hp => subst hg; simp [plain1, Abs.osq] at hp
          | mark _ _ => simp [Abs.osq, mk] at hg
          | deep _ => simp [Abs.osq, dsl] at hg
          | fptr _ _ _ => simp [Abs.fptr, Abs.osq] at hg
          | rptr _ => simp [Abs.rptr, Abs.osq] at hg
          | mbool => simp [mkb, Abs.osq] at hg
          | _ => cases hg
        · cases h
      · cases h
    · simp only [Option.some.injEq] at h; subst h
      rw [r.eq_of_plain rfl]
      exact ⟨_, rfl, .osl .nil rfl (.inl rfl)⟩
    · cases h
  · split at h
    · simp only [Option.some.injEq] at h; subst h
      rw [r.eq_of_plain rfl]
      exact ⟨_, rfl, .mbool⟩
    · rename_i f y
      split at h
      · rename_i b hf
        simp only [Option.some.injEq] at h; subst h
        rw [mkb_inv hf r]
        exact ⟨_, rfl, .mbool⟩
      · cases h
    · cases h

theorem s0_ok (hD : DvOk μ dv z1) {s : S0} {v v' : Value} {fs : List Filler} (h : s.mat dv ρ v = some fs) (r : VR1 μ v v') (rest : List Filler) : ∃ v0, s.fill id (fs ++ rest) = some (v0, rest) ∧ VR0 (muOf μ z1 ρ) v0 v' := by
  by_cases hz : ∃ z, s = .deep z
  · obtain ⟨z, rfl⟩ := hz
    simp only [S0.mat] at h
    cases e : dv z v with
    | none => rw [e] at h; cases h
    | some xs =>
      rw [e] at h
      simp only [Option.map_some, Option.some.injEq] at h; subst h
      exact ⟨_, rfl, .deep (hD.ok e r)⟩
  · have hb : VR0 μ v v' := by
      cases r with
      | zero r => exact r
      | @func f a b a' b' h0 ha hb =>
        have hden : Abs.den (Value.func f a b) = .func f a b := by
          rcases den_cases (Value.func f a b) with e | ⟨w, e, _, _⟩
          · exact e
          · unfold mk at e; simp at e; obtain ⟨rfl, _⟩ := e; simp [isYield] at h0
        unfold S0.mat at h
        rw [hden] at h
        cases s with
        | lit u =>
          simp only [Bool.and_eq_true] at h
          split at h
          · rename_i hc
            have e := vbeq1_eq hc.2
            rw [e] at hc
            have hp := hc.1
            simp only [plain1, Bool.and_eq_true, Array.isEmpty_iff] at hp
            obtain ⟨rfl, rfl⟩ := hp
            have e1 := Array.toList_eq_nil_iff.1 (show a'.toList = [] from ha.inv_nil)
            have e2 := Array.toList_eq_nil_iff.1 (show b'.toList = [] from hb.inv_nil)
            subst e1; subst e2
            exact .plain rfl
          · cases h
        | deep z => exact absurd ⟨z, rfl⟩ hz
        | osl j z => cases f <;> first | (simp at h; done) | (simp [isYield] at h0)
        | boo => cases f <;> first | (simp at h; done) | (simp [isYield] at h0)
        | _ => simp [isScal] at h
      | iface h0 =>
        exfalso
        unfold S0.mat at h
        cases s with
        | deep z => exact hz ⟨z, rfl⟩
        | lit u =>
          simp only [Bool.and_eq_true] at h
          split at h
          · rename_i hc
            have := hc.2
            cases u <;> simp [vbeq1] at this
          · cases h
        | _ => simp [isScal, Abs.den] at h
    exact s0_ok0 hD h hb rest

theorem matL_ok {α β : Type} {m : α → Value → Option (List Filler)} {f : α → List Filler → Option (Value × List Filler)} {R : Value → β → Prop} {R' : Value → β → Prop}
    (hok : ∀ (a : α) (v : Value) (v' : β) (fs : List Filler), m a v = some fs → R v v' → ∀ rest, ∃ v0, f a (fs ++ rest) = some (v0, rest) ∧ R' v0 v') : ∀ {l : List α} {vs : List Value} {vs' : List β} {fs : List Filler}, matL m l vs = some fs → All2 R vs vs' →
      ∀ rest, ∃ l0, fillL f l (fs ++ rest) = some (l0, rest) ∧ All2 R' l0 vs'
  | [], [], vs', fs, h, hr, rest => by
    simp only [matL, Option.some.injEq] at h; subst h
    have := hr.inv_nil; subst this
    exact ⟨[], rfl, All2.nil⟩
  | a :: l, v :: vs, vs', fs, h, hr, rest => by
    unfold matL at h
    split at h
    · rename_i x y hx hy
      simp only [Option.some.injEq] at h; subst h
      obtain ⟨v', vs'', rfl, r, hr⟩ := hr.inv_cons
      obtain ⟨v0, h1, h2⟩ := hok _ _ _ _ hx r (y ++ rest)
      obtain ⟨l0, h3, h4⟩ := matL_ok hok hy hr rest
      refine ⟨v0 :: l0, ?_, All2.cons h2 h4⟩
      unfold fillL
      rw [List.append_assoc, h1]
      simp only [h3]
    · cases h
  | [], _ :: _, _, _, h, _, _ => by simp [matL] at h
  | _ :: _, [], _, _, h, _, _ => by simp [matL] at h

theorem s1_ok (hD : DvOk μ dv z1) {s : S1} {v v' : Value} {fs : List Filler} (h : s.mat dv ρ v = some fs) (r : VR1 μ v v') (rest : List Filler) : ∃ v0, s.fill id (fs ++ rest) = some (v0, rest) ∧ VR1 (muOf μ z1 ρ) v0 v' := by
  unfold S1.mat at h
  split at h
  · rename_i s
    exact (s0_ok hD h r rest).imp fun v0 ⟨h1, h2⟩ => ⟨h1, .zero h2⟩
  · rename_i f a b
    split at h
    · rename_i f' x y
      split at h
      · rename_i hc
        simp only [Bool.and_eq_true, Bool.not_eq_true', decide_eq_true_eq] at hc
        obtain ⟨hy, rfl⟩ := hc
        split at h
        · rename_i p q hp hq
          simp only [Option.some.injEq] at h; subst h
          obtain ⟨x', y', rfl, h1, h2⟩ := (VR.one r).inv_func hy
          obtain ⟨l1, h3, h4⟩ := matL_ok (m := S0.mat dv ρ) (f := S0.fill id) (R := VR0 μ) (R' := VR0 (muOf μ z1 ρ)) (fun _ _ _ _ h r rest => s0_ok hD h (.zero r) rest) hp h1 (q ++ rest)
          obtain ⟨l2, h5, h6⟩ := matL_ok (m := S0.mat dv ρ) (f := S0.fill id) (R := VR0 μ) (R' := VR0 (muOf μ z1 ρ)) (fun _ _ _ _ h r rest => s0_ok hD h (.zero r) rest) hq h2 rest
          refine ⟨.func f l1.toArray l2.toArray, ?_, .func hy (by simpa using h4) (by simpa using h6)⟩
          unfold S1.fill
          simp only [List.append_assoc, h3, h5, hy, Bool.false_eq_true, if_false]
        · cases h
      · cases h
    · cases h
  · rename_i t s
    split at h
    · rename_i t' v
      split at h
      · rename_i ht
        subst ht
        obtain ⟨y, rfl, hy⟩ := (VR.one r).inv_iface
        obtain ⟨v0, h1, h2⟩ := s0_ok hD h (.zero hy) rest
        refine ⟨.iface t v0, ?_, .iface h2⟩
        unfold S1.fill
        simp only [h1]
      · cases h
    · cases h
theorem sa_ok (hD : DvOk μ dv z1) {s : SA} {v v' : Value} {fs : List Filler} (h : s.mat dv ρ v = some fs) (r : VRa μ v v') (rest : List Filler) : ∃ v0, s.fill id (fs ++ rest) = some (v0, rest) ∧ VRa (muOf μ z1 ρ) v0 v' := by
  have hn1 : ∀ z cs, dv z (.agg cs) = none := fun _ _ => hD.not rfl
  unfold SA.mat at h
  split at h
  · rename_i s
    have hb : VR1 μ v v' := by
      cases r with
      | one r => exact r
      | agg _ =>
        exfalso
        unfold S1.mat S0.mat at h
        cases s with
        | zero s =>
          cases s <;> simp [isScal, Abs.den, hn1] at h
          rename_i u
          have := h.1.2
          cases u <;> simp [vbeq1] at this
        | func f a b => simp at h
        | iface t s => simp at h
    exact (s1_ok hD h hb rest).imp fun v0 ⟨h1, h2⟩ => ⟨h1, .one h2⟩
  · rename_i l
    split at h
    · rename_i cs
      have hr := (VR.a r).inv_agg
      obtain ⟨ys, rfl, hys⟩ := hr
      obtain ⟨l0, h1, h2⟩ := matL_ok (m := S1.mat dv ρ) (f := S1.fill id) (R := VR1 μ) (R' := VR1 (muOf μ z1 ρ)) (fun _ _ _ _ h r rest => s1_ok hD h r rest) h hys rest
      refine ⟨.agg l0.toArray, ?_, .agg (by simpa using h2)⟩
      unfold SA.fill
      simp only [h1]
    · cases h

theorem slot_ok (hD : DvOk μ dv z1) {s : Option SA} {v v' : Value} {fs : List Filler} (h : slotMat dv ρ s v = some fs) (r : VR μ v v') (rest : List Filler) : ∃ v0, slotFill id s (fs ++ rest) = some (v0, rest) ∧ VR (muOf μ z1 ρ) v0 v' := by
  have hn2 : ∀ z cs, dv z (.tuple cs) = none := fun _ _ => hD.not rfl
  unfold slotMat at h
  split at h
  · simp only [Option.some.injEq] at h; subst h
    exact ⟨_, rfl, .dead⟩
  · rename_i s
    have hb : VRa μ v v' := by
      cases r with
      | a r => exact r
      | tup _ =>
        exfalso
        unfold SA.mat at h
        cases s with
        | agg l => simp at h
        | one s =>
          cases s with
          | zero s =>
            simp only [S1.mat, S0.mat] at h
            cases s <;> simp [isScal, Abs.den, hn2] at h
            rename_i u
            have := h.1.2
            cases u <;> simp [vbeq1] at this
          | func f a b => simp [S1.mat] at h
          | iface t s => simp [S1.mat] at h
      | dead =>
        exfalso
        unfold SA.mat at h
        cases s with
        | agg l => simp [Abs.dead] at h
        | one s =>
          cases s with
          | zero s =>
            simp only [S1.mat, S0.mat, Abs.dead] at h
            cases s <;> simp [isScal, Abs.den, hn2] at h
            rename_i u
            have := h.1.2
            cases u <;> simp [vbeq1] at this
          | func f a b => simp [S1.mat, Abs.dead] at h
          | iface t s => simp [S1.mat, Abs.dead] at h
    exact (sa_ok hD h hb rest).imp fun v0 ⟨h1, h2⟩ => ⟨h1, .a h2⟩

theorem cells_ok (hD : DvOk μ dv z1) {l : List S1} {cs : List Value} {fs : List Filler} (h : matL (S1.mat dv ρ) l cs = some fs) {arr : Array Value} {p : Nat} (hr : ∀ i v, cs[i]? = some v → ∃ v', arr[p + i]? = some v' ∧ VR1 μ v v') (rest : List Filler) :
    ∃ cs0, fillL (S1.fill id) l (fs ++ rest) = some (cs0, rest) ∧ cs0.length = cs.length ∧ ∀ i v, cs0[i]? = some v → ∃ v', arr[p + i]? = some v' ∧ VR1 (muOf μ z1 ρ) v v' := by
  obtain ⟨h1, h2⟩ := row_rel (o := 0) (n := cs.length) hr (by omega)
  rw [List.drop_zero, List.take_length] at h1
  obtain ⟨l0, h3, h4⟩ := matL_ok (m := S1.mat dv ρ) (f := S1.fill id) (R := VR1 μ) (R' := VR1 (muOf μ z1 ρ)) (fun _ _ _ _ h r rest => s1_ok hD h r rest) h h1 rest
  refine ⟨l0, h3, by rw [h4.1, h2], fun i v hv => ?_⟩
  obtain ⟨v', h5, h6⟩ := h4.2 i v hv
  rw [List.getElem?_take] at h5
  split at h5
  · rw [List.getElem?_drop, Array.getElem?_toList] at h5
    exact ⟨v', by rw [← h5]; congr 1; omega, h6⟩
  · cases h5

theorem entries_ok (hD : DvOk μ dv z1) : ∀ {l : List SE} {es : List MapEntry} {es' : List MapEntry} {fs : List Filler}, entriesMat dv ρ l es = some fs → All2 (ER μ) es es' → ∀ rest, ∃ l0, fillL (entryFill id) l (fs ++ rest) = some (l0, rest) ∧ All2 (ER (muOf μ z1 ρ)) l0 es'
  | [], [], es', fs, h, hr, rest => by
    simp only [entriesMat, Option.some.injEq] at h; subst h
    have := hr.inv_nil; subst this
    exact ⟨[], rfl, All2.nil⟩
  | a :: l, v :: vs, es', fs, h, hr, rest => by
    unfold entriesMat at h
    split at h
    · rename_i x y hx hy
      simp only [Option.some.injEq] at h; subst h
      obtain ⟨v', vs'', rfl, r, hr⟩ := hr.inv_cons
      unfold entryMat at hx
      split at hx
      · rename_i hc
        simp only [Bool.and_eq_true, beq_iff_eq] at hc
        obtain ⟨⟨hk, hk2⟩, hb⟩ := hc
        obtain ⟨v0, h1, h2⟩ := sa_ok hD hx r.val (y ++ rest)
        obtain ⟨l0, h3, h4⟩ := entries_ok hD hy hr rest
        refine ⟨{ key := a.key, val := v0, born := a.born } :: l0, ?_, All2.cons ⟨by rw [r.key, vbeq1_plain hk2], by rw [r.born, hb], h2⟩ h4⟩
        have h5 : entryFill id a (x ++ y ++ rest) = some ({ key := a.key, val := v0, born := a.born }, y ++ rest) := by unfold entryFill; rw [List.append_assoc, h1]
        unfold fillL
        simp only [h5, h3]
      · cases hx
    · cases h
  | [], _ :: _, _, _, h, _, _ => by simp [entriesMat] at h
  | _ :: _, [], _, _, h, _, _ => by simp [entriesMat] at h

variable {base : Nat} {w : World}

theorem roOk_spec {wk ro ro' : Bool} (h : roOk wk ro ro' = true) : (ro = false → ro' = false) ∧ (wk = false → ro = ro') := by
  cases wk <;> cases ro <;> cases ro' <;> simp_all [roOk]

theorem block_ok (hD : DvOk μ dv z1) {wk : Bool} {s : SB} {x : Blk} {fs : List Filler} (h : s.mat dv wk ρ x = some fs) {p : Pl} (hr : BR μ base w p x) (rest : List Filler) :
    ∃ x0, s.fill id (fs ++ rest) = some (x0, rest) ∧ BR (muOf μ z1 ρ) base w p x0 ∧ ((ownB x0 = true → ownB x = true) ∧ (wk = false → ownB x0 = ownB x)) := by
  unfold SB.mat at h
  split at h
  · rename_i l ro cs ro'
    split at h
    · rename_i hro
      obtain ⟨ha, hb⟩ := roOk_spec hro
      obtain ⟨arr, e, fr, h1, h2, h3, h4⟩ := hr
      obtain ⟨cs0, h5, h6, h7⟩ := cells_ok hD h h3 rest
      exact ⟨.cells cs0 ro, by unfold SB.fill; simp only [h5], ⟨arr, e, fr, h1, h2, h7, fun h => by rw [h6]; exact h4 (ha h)⟩, by simp only [ownB, Bool.not_eq_true']; exact ha, fun h => by simp only [ownB, hb h]⟩
    · cases h
  · rename_i like ro r ro'
    split at h
    · rename_i hro
      obtain ⟨ha, hb⟩ := roOk_spec hro
      simp only [Option.some.injEq] at h; subst h
      refine ⟨.row r ro, rfl, ?_, by simp only [ownB, Bool.not_eq_true']; exact ha, fun h => by simp only [ownB, hb h]⟩
      obtain ⟨arr, e, fr, h1, h2, h3, h4⟩ := hr
      refine ⟨arr, e, fr, h1, h2, fun i v hv => ?_, fun h => h4 (ha h)⟩
      obtain ⟨v', h5, h6⟩ := h3 i v hv
      exact ⟨v', h5, row_keep (μ' := muOf μ z1 ρ) hD.le (List.mem_of_getElem? hv) h6⟩
    · cases h
  · rename_i like ro cs ro'
    split at h
    · rename_i hro
      obtain ⟨ha, hb⟩ := roOk_spec hro
      cases hl : rowLike like cs with
      | none => simp [hl] at h
      | some r =>
        simp [hl] at h; subst h
        refine ⟨.row r ro, rfl, ?_, by simp only [ownB, Bool.not_eq_true']; exact ha, fun h => by rw [hb h]; rfl⟩
        obtain ⟨arr, e, fr, h1, h2, h3, h4⟩ := hr
        have hden := rowLike_spec hl
        refine ⟨arr, e, fr, h1, h2, fun i v hv => ?_, fun h => ?_⟩
        · rw [← hden] at hv
          rw [List.getElem?_map] at hv
          cases he : cs[i]? with
          | none => rw [he] at hv; cases hv
          | some u =>
            rw [he] at hv; simp at hv
            obtain ⟨v', h5, h6⟩ := h3 i u he
            refine ⟨v', h5, ?_⟩
            have h7 := VR1.den_iff.2 h6
            rw [hv] at h7
            have hm : v ∈ r.cells := by
              rw [← hden]; rw [List.mem_map]; exact ⟨u, List.mem_of_getElem? he, hv⟩
            exact row_keep (μ' := muOf μ z1 ρ) hD.le hm h7
        · rw [← hden, List.length_map]; exact h4 (ha h)
    · cases h
  · rename_i l ck es ck'
    split at h
    · rename_i hck
      subst hck
      obtain ⟨es', h1, h2, h3⟩ := hr
      obtain ⟨l0, h4, h5⟩ := entries_ok hD h h2 rest
      exact ⟨.map l0 ck, by unfold SB.fill; simp only [h4], ⟨es', h1, h5, h3⟩, fun h => h, fun _ => rfl⟩
    · cases h
  · simp only [Option.some.injEq] at h; subst h
    obtain ⟨arr, e, fr, h1, h2, h3, h4⟩ := hr
    exact ⟨.cells [] false, rfl, ⟨arr, e, fr, h1, h2, fun i v hv => by simp at hv, h4⟩, fun h => h, fun _ => rfl⟩
  · cases h

theorem slots_ok (hD : DvOk μ dv z1) : ∀ {l : List (Option SA)} {vs : List Value} {vs' : List Value} {fs : List Filler}, matL (slotMat dv ρ) l vs = some fs → All2 (VR μ) vs vs' → ∀ rest, ∃ l0, fillL (slotFill id) l (fs ++ rest) = some (l0, rest) ∧ All2 (VR (muOf μ z1 ρ)) l0 vs' :=
  fun h hr rest => matL_ok (m := slotMat dv ρ) (f := slotFill id) (R := VR μ) (R' := VR (muOf μ z1 ρ)) (fun _ _ _ _ h r rest => slot_ok hD h r rest) h hr rest

theorem s0_syn {s : S0} {v : Value} {fs : List Filler} (h : s.mat dv ρ v = some fs) (rest : List Filler) : ∃ v0, s.fill id (fs ++ rest) = some (v0, rest) := by
  unfold S0.mat at h
  repeat' split at h
  all_goals first
    | (cases h; done)
    | (obtain ⟨xs, _, rfl⟩ := Option.map_eq_some_iff.1 h; exact ⟨_, rfl⟩)
    | (simp only [Option.some.injEq] at h; subst h; exact ⟨_, rfl⟩)
    | (rename_i hc; simp only [Option.some.injEq] at h; subst h; simp only [Bool.and_eq_true] at hc; exact ⟨_, if_pos hc.1⟩)
    | (rename_i hc; simp only [Option.some.injEq] at h; subst h; exact ⟨_, if_pos hc⟩)
theorem all2_true {α : Type} (l : List α) : All2 (fun (_ _ : α) => True) l l := All2.refl fun _ _ => trivial
theorem syn_list {α : Type} {m : α → Value → Option (List Filler)} {f : α → List Filler → Option (Value × List Filler)} (hok : ∀ (a : α) (v : Value) (fs : List Filler), m a v = some fs → ∀ rest, ∃ v0, f a (fs ++ rest) = some (v0, rest))
    {l : List α} {vs : List Value} {fs : List Filler} (h : matL m l vs = some fs) (rest : List Filler) : ∃ l0, fillL f l (fs ++ rest) = some (l0, rest) := by
  obtain ⟨l0, h1, _⟩ := matL_ok (m := m) (f := f) (R := fun (_ _ : Value) => True) (R' := fun (_ _ : Value) => True) (fun a v v' fs h _ rest => let ⟨v0, h1⟩ := hok a v fs h rest; ⟨v0, h1, trivial⟩) h (all2_true vs) rest
  exact ⟨l0, h1⟩
theorem s1_syn {s : S1} {v : Value} {fs : List Filler} (h : s.mat dv ρ v = some fs) (rest : List Filler) : ∃ v0, s.fill id (fs ++ rest) = some (v0, rest) := by
  unfold S1.mat at h
  split at h
  · exact s0_syn h rest
  · split at h
    · split at h
      · rename_i hc
        simp only [Bool.and_eq_true, Bool.not_eq_true', decide_eq_true_eq] at hc
        split at h
        · rename_i p q hp hq
          simp only [Option.some.injEq] at h; subst h
          obtain ⟨l1, h1⟩ := syn_list (m := S0.mat dv ρ) (f := S0.fill id) (fun _ _ _ h rest => s0_syn h rest) hp (q ++ rest)
          obtain ⟨l2, h2⟩ := syn_list (m := S0.mat dv ρ) (f := S0.fill id) (fun _ _ _ h rest => s0_syn h rest) hq rest
          unfold S1.fill
          simp only [List.append_assoc, h1, h2, hc.1, Bool.false_eq_true, if_false]
          exact ⟨_, rfl⟩
        · cases h
      · cases h
    · cases h
  · split at h
    · split at h
      · obtain ⟨v0, h1⟩ := s0_syn h rest
        unfold S1.fill
        simp only [h1]
        exact ⟨_, rfl⟩
      · cases h
    · cases h
theorem sa_syn {s : SA} {v : Value} {fs : List Filler} (h : s.mat dv ρ v = some fs) (rest : List Filler) : ∃ v0, s.fill id (fs ++ rest) = some (v0, rest) := by
  unfold SA.mat at h
  split at h
  · exact s1_syn h rest
  · split at h
    · obtain ⟨l1, h1⟩ := syn_list (m := S1.mat dv ρ) (f := S1.fill id) (fun _ _ _ h rest => s1_syn h rest) h rest
      unfold SA.fill
      simp only [h1]
      exact ⟨_, rfl⟩
    · cases h
theorem entries_syn : ∀ {l : List SE} {es : List MapEntry} {fs : List Filler}, entriesMat dv ρ l es = some fs → ∀ rest, ∃ l0, fillL (entryFill id) l (fs ++ rest) = some (l0, rest)
  | [], [], fs, h, rest => by simp only [entriesMat, Option.some.injEq] at h; subst h; exact ⟨[], rfl⟩
  | a :: l, v :: vs, fs, h, rest => by
    unfold entriesMat at h
    split at h
    · rename_i x y hx hy
      simp only [Option.some.injEq] at h; subst h
      unfold entryMat at hx
      split at hx
      · obtain ⟨v0, h1⟩ := sa_syn hx (y ++ rest)
        obtain ⟨l0, h3⟩ := entries_syn hy rest
        have h5 : entryFill id a (x ++ y ++ rest) = some ({ key := a.key, val := v0, born := a.born }, y ++ rest) := by unfold entryFill; rw [List.append_assoc, h1]
        unfold fillL
        simp only [h5, h3]
        exact ⟨_, rfl⟩
      · cases hx
    · cases h
  | [], _ :: _, _, h, _ => by simp [entriesMat] at h
  | _ :: _, [], _, h, _ => by simp [entriesMat] at h
theorem block_syn {wk : Bool} {s : SB} {x : Blk} {fs : List Filler} (h : s.mat dv wk ρ x = some fs) (rest : List Filler) : ∃ x0, s.fill id (fs ++ rest) = some (x0, rest) ∧ ((ownB x0 = true → ownB x = true) ∧ (wk = false → ownB x0 = ownB x)) := by
  unfold SB.mat at h
  split at h
  · split at h
    · rename_i hro
      obtain ⟨l1, h1⟩ := syn_list (m := S1.mat dv ρ) (f := S1.fill id) (fun _ _ _ h rest => s1_syn h rest) h rest
      unfold SB.fill
      simp only [h1]
      obtain ⟨ha, hb⟩ := roOk_spec hro; exact ⟨_, rfl, by simp only [ownB, Bool.not_eq_true']; exact ha, fun h => by simp only [ownB, hb h]⟩
    · cases h
  · split at h
    · rename_i hro
      simp only [Option.some.injEq] at h; subst h
      obtain ⟨ha, hb⟩ := roOk_spec hro; exact ⟨_, rfl, by simp only [ownB, Bool.not_eq_true']; exact ha, fun h => by simp only [ownB, hb h]⟩
    · cases h
  · rename_i like ro cs ro'
    split at h
    · rename_i hro
      cases hl : rowLike like cs with
      | none => simp [hl] at h
      | some r =>
        simp [hl] at h; subst h
        obtain ⟨ha, hb⟩ := roOk_spec hro
        exact ⟨_, rfl, by simp only [ownB, Bool.not_eq_true']; exact ha, fun h => by simp only [ownB, hb h]⟩
    · cases h
  · split at h
    · obtain ⟨l1, h1⟩ := entries_syn h rest
      unfold SB.fill
      simp only [h1]
      exact ⟨_, rfl, fun h => h, fun _ => rfl⟩
    · cases h
  · simp only [Option.some.injEq] at h; subst h
    exact ⟨.cells [] false, rfl, fun h => h, fun _ => rfl⟩
  · cases h

theorem blocks_ok (hD : DvOk μ dv z1) {wk : Bool} {h : Hp} (hrel : Rel μ base h.get w) (hfree : ∀ b, h.next ≤ b → μ b = none) : ∀ {l : List (Option SB)} {bs : List Nat} {fs : List Filler}, blocksMat dv wk ρ h l bs = some fs → ∀ (rest : List Filler), ∃ l0, fillL (blockFill id) l (fs ++ rest) = some (l0, rest) ∧ l0.length = bs.length ∧
      ∀ (i : Nat) (x0 : Blk), l0[i]? = some (some x0) → ∃ b, bs[i]? = some b ∧ ∀ p, μ b = some p → ∃ x, h.get b = some x ∧ ((ownB x0 = true → ownB x = true) ∧ (wk = false → ownB x0 = ownB x)) ∧ BR (muOf μ z1 ρ) base w p x0
  | [], [], fs, hm, rest => by
    simp only [blocksMat, Option.some.injEq] at hm; subst hm
    exact ⟨[], rfl, rfl, fun i x0 h => by simp at h⟩
  | a :: l, b :: bs, fs, hm, rest => by
    unfold blocksMat at hm
    split at hm
    · rename_i x y hx hy
      simp only [Option.some.injEq] at hm; subst hm
      obtain ⟨l0, h1, hlen, h2⟩ := blocks_ok hD hrel hfree hy rest
      unfold blockMat at hx
      split at hx
      · simp only [Option.some.injEq] at hx; subst hx
        refine ⟨none :: l0, ?_, by simp [hlen], fun i x0 hi => ?_⟩
        · unfold fillL
          have : blockFill id none ([] ++ y ++ rest) = some (none, y ++ rest) := rfl
          simp only [this, h1]
        · cases i with
          | zero => simp at hi
          | succ i => obtain ⟨b', h3, h4⟩ := h2 i x0 (by simpa using hi); exact ⟨b', by simpa using h3, h4⟩
      · rename_i s
        have key : ∃ x0, s.fill id (x ++ (y ++ rest)) = some (x0, y ++ rest) ∧ ∀ p, μ b = some p → ∃ x, h.get b = some x ∧ ((ownB x0 = true → ownB x = true) ∧ (wk = false → ownB x0 = ownB x)) ∧ BR (muOf μ z1 ρ) base w p x0 := by
          split at hx
          · rename_i blk hb
            cases hp : μ b with
            | none =>
              obtain ⟨x0, h3, h4⟩ := block_syn hx (y ++ rest)
              exact ⟨x0, h3, fun p hp' => by cases hp'⟩
            | some p =>
              obtain ⟨x0, h3, h4, h5⟩ := block_ok hD hx (hrel.blk b p blk hp hb) (y ++ rest)
              exact ⟨x0, h3, fun p' hp' => by simp at hp'; subst hp'; exact ⟨blk, hb, h5, h4⟩⟩
          · split at hx
            · rename_i hc
              simp only [Option.some.injEq] at hx; subst hx
              simp only [Bool.and_eq_true, decide_eq_true_eq] at hc
              cases s <;> first | (simp [SB.isTok] at hc; done) | skip
              exact ⟨.cells [] false, rfl, fun p hp => by rw [hfree b hc.2] at hp; cases hp⟩
            · cases hx
        obtain ⟨x0, h3, h4⟩ := key
        refine ⟨some x0 :: l0, ?_, by simp [hlen], fun i x1 hi => ?_⟩
        · unfold fillL
          have : blockFill id (some s) (x ++ y ++ rest) = some (some x0, y ++ rest) := by rw [List.append_assoc]; unfold blockFill; simp only [h3]
          simp only [this, h1]
        · cases i with
          | zero =>
            simp at hi; subst hi
            exact ⟨b, rfl, h4⟩
          | succ i => obtain ⟨b', h5, h6⟩ := h2 i x1 (by simpa using hi); exact ⟨b', by simpa using h5, h6⟩
    · cases hm
  | [], _ :: _, _, h, _ => by simp [blocksMat] at h
  | _ :: _, [], _, h, _ => by simp [blocksMat] at h

theorem nodup_inj : ∀ {l : List Nat} {i j b : Nat}, l.Nodup → l[i]? = some b → l[j]? = some b → i = j
  | [], i, j, b, _, h, _ => by simp at h
  | x :: l, i, j, b, hn, hi, hj => by
    rw [List.nodup_cons] at hn
    cases i with
    | zero =>
      simp at hi; subst hi
      cases j with
      | zero => rfl
      | succ j => exact absurd (List.mem_of_getElem? (by simpa using hj)) hn.1
    | succ i =>
      cases j with
      | zero => simp at hj; subst hj; exact absurd (List.mem_of_getElem? (by simpa using hi)) hn.1
      | succ j => exact congrArg (· + 1) (nodup_inj hn.2 (show l[i]? = some b by simpa using hi) (show l[j]? = some b by simpa using hj))

/-- WHAT HAS A SHAPE STANDS FOR WHAT THE FILLED SHAPE STANDS FOR. -/
theorem shapeD_ok {S : Nat → Prop} {wk : Bool} {sh : Shape} {s s0 : St} {fs : List Filler} (hm : sh.matD dv wk ρ s = some fs) (hf : sh.fill fs = some s0) (hnd : ρ.Nodup) {a : Array Value} (ht : TR μ s.tmps a) (hr : Rel μ base s.h.get w) (hfree : ∀ b, s.h.next ≤ b → μ b = none)
    (hD : DvOk μ dv (zf μ s.h.get w S)) (hS : ∀ b, b ∈ ρ → S b → ∀ x, s.h.get b = some x → ownB x = false) :
    s0.h.next = ρ.length ∧ TR (muOf μ (zf μ s.h.get w S) ρ) s0.tmps a ∧ Rel (muOf μ (zf μ s.h.get w S) ρ) base s0.h.get w ∧
      ∀ (j : Nat) (x0 : Blk) (p : Pl), s0.h.get j = some x0 → muOf μ (zf μ s.h.get w S) ρ j = some p → ∃ b x, ρ[j]? = some b ∧ s.h.get b = some x ∧ ((ownB x0 = true → ownB x = true) ∧ (wk = false → ownB x0 = ownB x)) := by
  unfold Shape.matD at hm
  split at hm
  · rename_i x y hx hy
    simp only [Option.some.injEq] at hm; subst hm
    obtain ⟨l0, h1, h2⟩ := slots_ok hD hx ht y
    obtain ⟨bs, h3, hlen, h4⟩ := blocks_ok hD hr hfree hy []
    rw [List.append_nil] at h3
    unfold Shape.fill at hf
    rw [h1] at hf
    simp only [h3, Option.some.injEq] at hf
    subst hf
    have hget : ∀ (j : Nat) (x0 : Blk), (hpOf bs).get j = some x0 → bs[j]? = some (some x0) := by
      intro j x0 h
      rw [hpOf_get] at h
      cases e : bs[j]? with
      | none => rw [e] at h; simp at h
      | some o => rw [e] at h; simp at h; rw [h]
    have at' : ∀ {j : Nat} {x0 : Blk} {p : Pl}, (hpOf bs).get j = some x0 → (ρ[j]?).bind μ.f = some p → ∃ b x, ρ[j]? = some b ∧ μ b = some p ∧ s.h.get b = some x ∧ ((ownB x0 = true → ownB x = true) ∧ (wk = false → ownB x0 = ownB x)) ∧ BR (muOf μ (zf μ s.h.get w S) ρ) base w p x0 := by
      intro j x0 p hx0 hp
      obtain ⟨b, h5, h6⟩ := h4 j x0 (hget j x0 hx0)
      rw [h5] at hp
      obtain ⟨x, h7, h8, h9⟩ := h6 p hp
      exact ⟨b, x, h5, hp, h7, h8, h9⟩
    have hfz := freeze_rel hr S
    refine ⟨by show (hpOf bs).next = _; rw [hpOf_next, hlen], h2, ⟨hr.size, fun j p x0 hp hx0 => ?_, fun j j' p p' x0 x0' hp hp' hx0 hx0' hne ho => ?_, fun c i a hc => ⟨(hfz.frz c i a hc).1, fun j p x0 hp hx0 ho hcc => ?_⟩⟩, fun j x0 p hx0 hp => ?_⟩
    · obtain ⟨b, x, _, _, _, _, h8⟩ := at' hx0 hp
      exact h8
    · obtain ⟨b, x, h5, hpb, h6, h7, _⟩ := at' hx0 hp
      obtain ⟨b', x', h5', hpb', h6', h7', _⟩ := at' hx0' hp'
      refine hr.inj b b' p p' x x' hpb hpb' h6 h6' (fun e => ?_) (h7.1 ho)
      subst e
      exact hne (nodup_inj hnd h5 h5')
    · obtain ⟨b, x, h5, hpb, h6, h7, _⟩ := at' hx0 hp
      have hown := h7.1 ho
      have hnS : ¬ S b := fun hs => by
        have := hS b (List.mem_of_getElem? h5) hs x h6
        rw [hown] at this; cases this
      exact (hfz.frz c i a hc).2 b p x hpb (by unfold gF; rw [if_neg hnS]; exact h6) hown hcc
    · obtain ⟨b, x, h5, _, h6, h7, _⟩ := at' hx0 hp
      exact ⟨b, x, h5, h6, h7⟩
  · cases hm
theorem okF_own {b : Nat} (hb : b ∈ ρ) (ho : okF ρ b = true) : False := by
  unfold okF at ho
  simp only [Bool.not_eq_true', List.contains_eq_mem, decide_eq_false_iff_not] at ho
  exact ho hb
/-- What is frozen at a shape. -/
noncomputable def zS (μ : Mu) (h : Hp) (w : World) (ρ : Rho) : Nat → Nat → Option Value := zf μ h.get w fun b => okF ρ b = true
theorem dvOk_of {h : Hp} (hr : Rel μ base h.get w) (ρ : Rho) : DvOk μ (deepV h (okF ρ) 6) (zS μ h w ρ) :=
  ⟨(muF_le hr _).z, fun hd hv => deepV_ok (fun _ h => h) hr 6 hd hv, deepV_one⟩
theorem shape_ok {wk : Bool} {sh : Shape} {s s0 : St} {fs : List Filler} (hm : sh.mat wk ρ s = some fs) (hf : sh.fill fs = some s0) (hnd : ρ.Nodup) {a : Array Value} (ht : TR μ s.tmps a) (hr : Rel μ base s.h.get w) (hfree : ∀ b, s.h.next ≤ b → μ b = none) :
    s0.h.next = ρ.length ∧ TR (muOf μ (zS μ s.h w ρ) ρ) s0.tmps a ∧ Rel (muOf μ (zS μ s.h w ρ) ρ) base s0.h.get w ∧
      ∀ (j : Nat) (x0 : Blk) (p : Pl), s0.h.get j = some x0 → muOf μ (zS μ s.h w ρ) ρ j = some p → ∃ b x, ρ[j]? = some b ∧ s.h.get b = some x ∧ ((ownB x0 = true → ownB x = true) ∧ (wk = false → ownB x0 = ownB x)) :=
  shapeD_ok hm hf hnd ht hr hfree (dvOk_of hr ρ) fun _ hb hs _ _ => (okF_own hb hs).elim
theorem zf_none {g : Gm} : zf μ g w (fun _ => False) = μ.z := by
  funext c i
  unfold zf
  rw [if_neg (by rintro ⟨_, _, _, h, _⟩; exact h)]
theorem dvOk_none {h : Hp} (hr : Rel μ base h.get w) : DvOk μ (deepV h (fun _ => false) 6) μ.z :=
  ⟨fun _ _ _ h => h, fun hd hv => by
    have := deepV_ok (S := fun _ => False) (ok := fun _ => false) (fun b hb => by cases hb) hr 6 hd hv
    rwa [zf_none] at this, deepV_one⟩
/-- Nothing is frozen. -/
theorem shape0_ok {wk : Bool} {sh : Shape} {s s0 : St} {fs : List Filler} (hm : sh.matD (deepV s.h (fun _ => false) 6) wk ρ s = some fs) (hf : sh.fill fs = some s0) (hnd : ρ.Nodup) {a : Array Value} (ht : TR μ s.tmps a) (hr : Rel μ base s.h.get w) (hfree : ∀ b, s.h.next ≤ b → μ b = none) :
    s0.h.next = ρ.length ∧ TR (muOf μ μ.z ρ) s0.tmps a ∧ Rel (muOf μ μ.z ρ) base s0.h.get w ∧
      ∀ (j : Nat) (x0 : Blk) (p : Pl), s0.h.get j = some x0 → muOf μ μ.z ρ j = some p → ∃ b x, ρ[j]? = some b ∧ s.h.get b = some x ∧ ((ownB x0 = true → ownB x = true) ∧ (wk = false → ownB x0 = ownB x)) := by
  have h := shapeD_ok (S := fun _ => False) hm hf hnd ht hr hfree (by rw [zf_none]; exact dvOk_none hr) (fun _ _ h => h.elim)
  rw [zf_none] at h
  exact h
end
end Go.Abs
