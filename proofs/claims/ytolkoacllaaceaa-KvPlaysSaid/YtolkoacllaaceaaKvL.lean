/-
  KV: what the functions come to, in plain Lean.
-/
import Derived.Test.YtolkoacllaaceaaKv1V
import Derived.Test.YtolkoacllaaceaaKv2V
import Derived.Test.YtolkoacllaaceaaKvG
namespace Go.Proofs.Ytolkoacllaaceaa
open Go.RowKit Go.Abs Go
def noB : ByteArray := ⟨#[]⟩
def prV (k v : ByteArray) : Value := .agg #[.string k, .string v]
def cmpB (a b : ByteArray) : Int := Lib.compareBytes a.data.toList b.data.toList
def ltB (a b : ByteArray) : Bool := Op.bytesLess a.data.toList b.data.toList
def eqB (a b : ByteArray) : Bool := a.data.toList == b.data.toList
def lenB (a : ByteArray) : Nat := a.data.toList.length
def bsL : Nat → (Nat → Bool) → Int → Int → Int
  | 0, _, i, _ => i
  | f + 1, p, i, j => if i < j then (if p ((i + j) / 2).toNat then bsL f p ((i + j) / 2 + 1) j else bsL f p i ((i + j) / 2)) else i
def bsF (xs : List Value) (k : ByteArray) : Int := bsL (xs.length + 1) (fun m => decide (cmpB (kP xs m) k < 0)) 0 xs.length
def fdF (xs : List Value) (k : ByteArray) : Bool := decide (bsF xs k < (xs.length : Int)) && cmpB (kP xs (bsF xs k).toNat) k == 0
def mayF (k v : ByteArray) : Bool := !eqB k noB && (decide ((lenB k : Int) ≤ 16) && decide ((lenB v : Int) ≤ 24))
def rmayF (k v : ByteArray) : Bool := decide (1 ≤ (lenB k : Int)) && (decide ((lenB k : Int) ≤ 16) && decide ((lenB v : Int) ≤ 24))
def rightAt (may : ByteArray → ByteArray → Bool) (xs : List Value) (i : Nat) : Bool := may (kP xs i) (vP xs i) && (i == 0 || ltB (kP xs (i - 1)) (kP xs i))
def rightF (may : ByteArray → ByteArray → Bool) (xs : List Value) : Bool := (List.range xs.length).all (rightAt may xs) && decide (xs.length ≤ 30)
def sameAt (xs ys : List Value) (i : Nat) : Bool := eqB (kP xs i) (kP ys i) && eqB (vP xs i) (vP ys i)
def sameF (xs ys : List Value) : Bool := xs.length == ys.length && (List.range xs.length).all (sameAt xs ys)
def samebF (xs ys : List Value) : Bool := xs.length == ys.length && (List.range xs.length).all fun i => eB xs i == eB ys i
/-- The first place at which something does not hold. -/
def firstN (p : Nat → Bool) : Nat → Nat → Nat
  | 0, i => i
  | n + 1, i => if p i then firstN p n (i + 1) else i
def rfirstF (xs : List Value) (k : ByteArray) : Int := (firstN (fun i => ltB (kP xs i) k) xs.length 0 : Nat)
def delL (xs : List Value) (k : ByteArray) : Nat → List Value
  | 0 => []
  | i + 1 => if eqB (kP xs i) k then delL xs k i else delL xs k i ++ [prV (kP xs i) (vP xs i)]
def rdelF (xs : List Value) (k : ByteArray) : List Value := delL xs k xs.length
def putF (xs : List Value) (i : Nat) (k v : ByteArray) (at' : Bool) : List Value := xs.take i ++ [prV k v] ++ xs.drop (if at' then i + 1 else i)
def rsetF (xs : List Value) (k v : ByteArray) : List Value := putF xs (rfirstF xs k).toNat k v (decide (rfirstF xs k < (xs.length : Int)) && eqB (kP xs (rfirstF xs k).toNat) k)
def getF (xs : List Value) (k : ByteArray) : ByteArray := if fdF xs k then vP xs (bsF xs k).toNat else noB
def setokF (xs : List Value) (k v : ByteArray) : Bool := mayF k v && (fdF xs k || decide ((xs.length : Int) < 30))
def setF (xs : List Value) (k v : ByteArray) : List Value := if setokF xs k v then putF xs (bsF xs k).toNat k v (fdF xs k) else xs
def dropF (xs : List Value) (k : ByteArray) : List Value := if fdF xs k then xs.take (bsF xs k).toNat ++ xs.drop ((bsF xs k).toNat + 1) else xs
def rngF (xs : List Value) (a b : ByteArray) : List Value := (xs.drop (bsF xs a).toNat).take ((max (bsF xs a) (bsF xs b)).toNat - (bsF xs a).toNat)
def strs (l : List (List UInt8)) : List Value := l.map fun s => .string ⟨s.toArray⟩
def keysV : List Value := strs [[97], [97, 98], [97, 98, 99], [98], [98, 97], [115, 47, 97], [115, 47, 98], [115, 47, 99], [116], [117], [122], [122, 122]]
def txtsV : List Value := strs [[], [49], [120], [118, 97, 108, 117, 101], [49, 50, 51, 52, 53, 54, 55, 56]]
def keyF (n : Int) : ByteArray := eS keysV (n % 12).toNat
def txtF (n : Int) : ByteArray := eS txtsV (n % 5).toNat
def catF (xss : List Value) : List Value := (List.range xss.length).flatMap (eL xss)
def oneL : Nat → Int → List Value
  | 0, _ => []
  | f + 1, n => if 127 < n then .int .u8 (std.wrap .u8 (std.bor .i64 (std.band .i64 n 127) 128)) :: oneL f (std.shr .i64 n 7) else [.int .u8 (std.wrap .u8 n)]
def oneF (n : Int) : List Value := oneL 7 n
def textF (xs : List Value) : List Value := (List.range xs.length).flatMap fun i => oneF (lenB (eS xs i) : Int) ++ std.svals (eS xs i)
def leafF (k v : ByteArray) : List Value := textF [.string k, .string v]
noncomputable def kvF : KvF where
  cmp := cmpB
  bs := bsF
  fd := fdF
  may := mayF
  rmay := rmayF
  right := rightF mayF
  rright := rightF rmayF
  same := sameF
  sameb := samebF
  get := getF
  set := setF
  setok := setokF
  del := dropF
  rng := rngF
  rset := rsetF
  rdel := rdelF
  rfirst := rfirstF
  leaf := leafF
  key := keyF
  txt := txtF
  pairs := fun _ => []
  cat := catF
  one := oneF
  text := textF
  wi := fun n _ _ => n

theorem wrapu (n : Int) : std.wrap .u64 n = n % 18446744073709551616 := rfl
theorem shru1 (n : Int) : std.shr .u64 n 1 = n / 2 := by
  show n.fdiv 2 = n / 2
  exact Int.fdiv_eq_ediv_of_nonneg n (by omega)
theorem mid_of {i j : Int} (h0 : 0 ≤ i) (h1 : i ≤ j) (h2 : j ≤ 1000000) : std.wrap .i64 (std.shr .u64 (std.wrap .u64 (i + j)) 1) = (i + j) / 2 := by
  rw [wrapu, show (i + j) % 18446744073709551616 = i + j by omega, shru1]
  exact wrap_i64 (by omega)
theorem bsL_more (p : Nat → Bool) : ∀ (f : Nat) (i j : Int) (g : Nat), (j - i).toNat < f → (j - i).toNat < g → bsL f p i j = bsL g p i j
  | 0, i, j, g, h, _ => by omega
  | f + 1, i, j, 0, _, h => by omega
  | f + 1, i, j, g + 1, h1, h2 => by
    unfold bsL
    split
    · split
      · exact bsL_more p f _ _ g (by omega) (by omega)
      · exact bsL_more p f _ _ g (by omega) (by omega)
    · rfl
theorem bsL_range (p : Nat → Bool) : ∀ (f : Nat) (i j : Int), i ≤ j → i ≤ bsL f p i j ∧ bsL f p i j ≤ j
  | 0, i, j, h => ⟨Int.le_refl _, h⟩
  | f + 1, i, j, h => by
    unfold bsL
    split
    · split
      · have := bsL_range p f ((i + j) / 2 + 1) j (by omega); omega
      · have := bsL_range p f i ((i + j) / 2) (by omega); omega
    · omega
theorem bsF_range (xs : List Value) (k : ByteArray) : 0 ≤ bsF xs k ∧ bsF xs k ≤ (xs.length : Int) := bsL_range _ _ _ _ (by omega)
theorem fd_lt {xs : List Value} {k : ByteArray} (h : fdF xs k = true) : bsF xs k < (xs.length : Int) := by
  unfold fdF at h
  simp only [Bool.and_eq_true, decide_eq_true_eq] at h
  exact h.1
theorem bs_run (xs : List Value) (k : ByteArray) (hx : xs.length ≤ 1000000) : runP std (cmpCon kvF) 40 (bsLs xs k (fun d => d.n = xs.length ∧ 0 ≤ d.i ∧ d.i ≤ d.j ∧ d.j ≤ xs.length ∧ ∃ f, (d.j - d.i).toNat < f ∧ bsL f (fun m => decide (cmpB (kP xs m) k < 0)) d.i d.j = bsF xs k) fun d => (d.j - d.i).toNat) (bsP std kvF) 31 Try.f31 (xs, k, (), ()) := by
  rw [bs_vc]
  refine ⟨⟨xs.length, 0, xs.length⟩, rfl, ⟨rfl, by simp, by simp, by simp, _, ?_, rfl⟩, fun d ⟨hn, h0, h1, h2, f, hf, he⟩ => ⟨fun h => ?_, fun h => ?_⟩⟩
  · show ((xs.length : Int) - 0).toNat < xs.length + 1
    omega
  · have h := of_decide_eq_true h
    rw [mid_of h0 h1 (by omega)]
    obtain ⟨f, rfl⟩ : ∃ f', f = f' + 1 := ⟨f - 1, by omega⟩
    unfold bsL at he
    rw [if_pos h] at he
    refine ⟨by omega, by omega, by omega, fun e => ⟨by omega, ⟨d.n, (d.i + d.j) / 2 + 1, d.j⟩, rfl, ?_, hn, ?_, ?_, h2, f, ?_, ?_⟩, fun e => ⟨⟨d.n, d.i, (d.i + d.j) / 2⟩, rfl, ?_, hn, h0, ?_, ?_, f, ?_, ?_⟩⟩
    · show (d.j - ((d.i + d.j) / 2 + 1)).toNat + 1 ≤ (d.j - d.i).toNat; omega
    · show 0 ≤ (d.i + d.j) / 2 + 1; omega
    · show (d.i + d.j) / 2 + 1 ≤ d.j; omega
    · show (d.j - ((d.i + d.j) / 2 + 1)).toNat < f; omega
    · rw [if_pos (show decide (cmpB (kP xs ((d.i + d.j) / 2).toNat) k < 0) = true from e)] at he; exact he
    · show ((d.i + d.j) / 2 - d.i).toNat + 1 ≤ (d.j - d.i).toNat; omega
    · show d.i ≤ (d.i + d.j) / 2; omega
    · show (d.i + d.j) / 2 ≤ xs.length; omega
    · show ((d.i + d.j) / 2 - d.i).toNat < f; omega
    · have e : decide (cmpB (kP xs ((d.i + d.j) / 2).toNat) k < 0) = false := e
      rw [if_neg (fun h => by have h : decide (cmpB (kP xs ((d.i + d.j) / 2).toNat) k < 0) = true := h; rw [e] at h; cases h)] at he; exact he
  · have h : ¬ d.i < d.j := of_decide_eq_false h
    obtain ⟨f, rfl⟩ : ∃ f', f = f' + 1 := ⟨f - 1, by omega⟩
    unfold bsL at he
    rw [if_neg h] at he
    have hfd : fdF xs k = (decide (d.i < (xs.length : Int)) && cmpB (kP xs d.i.toNat) k == 0) := by unfold fdF; rw [← he]
    have key : ∀ b, fdF xs k = b → ([Value.int IntKind.i64 d.i, Value.bool b] = [Value.int IntKind.i64 (bsF xs k), Value.bool (fdF xs k)]) := fun b hb => by rw [hb, he]
    refine ⟨fun e => ⟨?_, fun c => key _ ?_, fun c => key _ ?_⟩, fun e => key _ ?_⟩
    · have e : d.i < d.n := of_decide_eq_true e
      omega
    · have e : d.i < d.n := of_decide_eq_true e
      rw [hfd, decide_eq_true (by omega), Bool.true_and]; exact c
    · have e : d.i < d.n := of_decide_eq_true e
      rw [hfd, decide_eq_true (by omega), Bool.true_and]; exact c
    · have e : ¬ d.i < d.n := of_decide_eq_false e
      rw [hfd, decide_eq_false (by omega), Bool.false_and]
theorem may_run (k v : ByteArray) : runP std noCon 40 noL (mayP kvF) 26 Try.f26 ((k, v, ()), ()) := by
  rw [may_vc]
  have key : ∀ b, mayF k v = b → ([Value.bool b] = [Value.bool (mayF k v)]) := fun b hb => by rw [hb]
  have hd : mayF k v = (!std.seq k ⟨#[]⟩ && (decide ((std.slen k : Int) ≤ 16) && decide ((std.slen v : Int) ≤ 24))) := rfl
  refine ⟨fun h1 => ⟨fun h2 => ⟨fun h3 => key _ ?_, fun h3 => key _ ?_⟩, fun h2 => key _ ?_⟩, fun h1 => key _ ?_⟩
  · rw [hd, h1, h2, h3]; rfl
  · rw [hd, h1, h2, h3]; rfl
  · rw [hd, h1, h2]; rfl
  · rw [hd, h1]; rfl
theorem rmay_run (k v : ByteArray) : runP std noCon 40 noL (rmayP kvF) 18 Try.f18 ((k, v, ()), ()) := by
  rw [rmay_vc]
  have key : ∀ b, rmayF k v = b → ([Value.bool b] = [Value.bool (rmayF k v)]) := fun b hb => by rw [hb]
  have hd : rmayF k v = (decide (1 ≤ (std.slen k : Int)) && (decide ((std.slen k : Int) ≤ 16) && decide ((std.slen v : Int) ≤ 24))) := rfl
  refine ⟨fun h1 => ⟨fun h2 => ⟨fun h3 => key _ ?_, fun h3 => key _ ?_⟩, fun h2 => key _ ?_⟩, fun h1 => key _ ?_⟩
  · rw [hd, h1, h2, h3]; rfl
  · rw [hd, h1, h2, h3]; rfl
  · rw [hd, h1, h2]; rfl
  · rw [hd, h1]; rfl
theorem all_not {p : Nat → Bool} {n i : Nat} (hi : i < n) (h : p i = false) : (List.range n).all p = false := by
  rw [List.all_eq_false]
  exact ⟨i, List.mem_range.2 hi, by rw [h]; exact Bool.false_ne_true⟩
theorem all_yes {p : Nat → Bool} {n : Nat} (h : ∀ i, i < n → p i = true) : (List.range n).all p = true := by
  rw [List.all_eq_true]
  exact fun i hi => h i (List.mem_range.1 hi)
/-- The invariant of a walk that looks whether all is right. -/
def rightI (may : ByteArray → ByteArray → Bool) (xs : List Value) (d : NIL) : Prop := d.n = xs.length ∧ ∃ i : Nat, d.i = i ∧ i ≤ xs.length ∧ ∀ j, j < i → rightAt may xs j = true
theorem right_of (may : ByteArray → ByteArray → Bool) (xs : List Value) (hx : xs.length ≤ 1000000) {d : NIL} (hI : rightI may xs d) (right : List Value → Bool) (hr : right xs = rightF may xs) :
   ((decide (d.i < d.n) = true → (0 ≤ d.i ∧ d.i < (xs.length : Int)) ∧ True ∧
      (may (kP xs d.i.toNat) (vP xs d.i.toNat) = true →
        (decide (0 < d.i) = true → (-9223372036854775808 ≤ d.i - 1 ∧ d.i - 1 ≤ 9223372036854775807) ∧ (0 ≤ d.i - 1 ∧ d.i - 1 < (xs.length : Int)) ∧
          ((!std.slt (kP xs (d.i - 1).toNat) (kP xs d.i.toNat)) = true → [Value.bool false] = [Value.bool (right xs)]) ∧
          ((!std.slt (kP xs (d.i - 1).toNat) (kP xs d.i.toNat)) = false → (-9223372036854775808 ≤ d.i + 1 ∧ d.i + 1 ≤ 9223372036854775807) ∧ ∃ d' : NIL, [Filler.dl xs, Filler.dl xs, Filler.val (Value.int IntKind.i64 d'.n), Filler.val (Value.int IntKind.i64 d'.i)] = [Filler.dl xs, Filler.dl xs, Filler.val (Value.int IntKind.i64 d.n), Filler.val (Value.int IntKind.i64 (d.i + 1))] ∧ Nat.le (Nat.succ (d'.n - d'.i).toNat) (d.n - d.i).toNat ∧ rightI may xs d')) ∧
        (decide (0 < d.i) = false → (-9223372036854775808 ≤ d.i + 1 ∧ d.i + 1 ≤ 9223372036854775807) ∧ ∃ d' : NIL, [Filler.dl xs, Filler.dl xs, Filler.val (Value.int IntKind.i64 d'.n), Filler.val (Value.int IntKind.i64 d'.i)] = [Filler.dl xs, Filler.dl xs, Filler.val (Value.int IntKind.i64 d.n), Filler.val (Value.int IntKind.i64 (d.i + 1))] ∧ Nat.le (Nat.succ (d'.n - d'.i).toNat) (d.n - d.i).toNat ∧ rightI may xs d')) ∧
      (may (kP xs d.i.toNat) (vP xs d.i.toNat) = false → [Value.bool false] = [Value.bool (right xs)])) ∧
    (decide (d.i < d.n) = false → (decide ((xs.length : Int) ≤ 30) = true → [Value.bool true] = [Value.bool (right xs)]) ∧ (decide ((xs.length : Int) ≤ 30) = false → [Value.bool false] = [Value.bool (right xs)]))) := by
  obtain ⟨hn, i, hi, hle, hall⟩ := hI
  have key : ∀ b, rightF may xs = b → ([Value.bool b] = [Value.bool (right xs)]) := fun b hb => by rw [hr, hb]
  have bad : i < xs.length → rightAt may xs i = false → rightF may xs = false := fun h1 h2 => by unfold rightF; rw [all_not h1 h2]; rfl
  have next : i < xs.length → rightAt may xs i = true → ∃ d' : NIL, [Filler.dl xs, Filler.dl xs, Filler.val (Value.int IntKind.i64 d'.n), Filler.val (Value.int IntKind.i64 d'.i)] = [Filler.dl xs, Filler.dl xs, Filler.val (Value.int IntKind.i64 d.n), Filler.val (Value.int IntKind.i64 (d.i + 1))] ∧ Nat.le (Nat.succ (d'.n - d'.i).toNat) (d.n - d.i).toNat ∧ rightI may xs d' := fun h1 h2 => by
    refine ⟨⟨d.n, d.i + 1⟩, rfl, ?_, hn, i + 1, by show d.i + 1 = _; omega, h1, fun j hj => ?_⟩
    · show (d.n - (d.i + 1)).toNat + 1 ≤ (d.n - d.i).toNat
      omega
    · by_cases e : j = i
      · subst e; exact h2
      · exact hall j (by omega)
  rw [hi, Int.toNat_natCast]
  refine ⟨fun h => ?_, fun h => ⟨fun e => key _ ?_, fun e => key _ ?_⟩⟩
  · have h := of_decide_eq_true h
    have hlt : i < xs.length := by omega
    refine ⟨by omega, trivial, fun h1 => ⟨fun h2 => ?_, fun h2 => ?_⟩, fun h1 => key _ (bad hlt (by unfold rightAt; rw [h1]; rfl))⟩
    · have h2 := of_decide_eq_true h2
      rw [show ((i : Int) - 1).toNat = i - 1 by omega]
      refine ⟨by omega, by omega, fun h3 => key _ (bad hlt ?_), fun h3 => ⟨by omega, ?_⟩⟩
      · have h3 : (!ltB (kP xs (i - 1)) (kP xs i)) = true := h3
        have h3 : ltB (kP xs (i - 1)) (kP xs i) = false := by simpa using h3
        unfold rightAt
        rw [h1, h3, show (i == 0) = false by simp; omega]; rfl
      · have h3 : (!ltB (kP xs (i - 1)) (kP xs i)) = false := h3
        have h3 : ltB (kP xs (i - 1)) (kP xs i) = true := by simpa using h3
        rw [← hi]
        refine next hlt ?_
        unfold rightAt
        rw [h1, h3]; simp
    · have h2 := of_decide_eq_false h2
      refine ⟨by omega, ?_⟩
      rw [← hi]
      refine next hlt ?_
      unfold rightAt
      rw [h1, show (i == 0) = true by simp; omega]; rfl
  · have h := of_decide_eq_false h
    unfold rightF
    rw [all_yes fun j hj => hall j (by omega)]
    have e := of_decide_eq_true e
    rw [decide_eq_true (by omega)]; rfl
  · unfold rightF
    have e := of_decide_eq_false e
    rw [decide_eq_false (by omega), Bool.and_false]
theorem right_run (xs : List Value) (hx : xs.length ≤ 1000000) : runP std (noCon.draw [(26, dcon (mayP kvF))]) 40 (walkLs 34 0 5 6 7 xs (rightI mayF xs) fun d => (d.n - d.i).toNat) (rightP std kvF) 11 Try.f11 (xs, ()) := by
  rw [right_vc]
  exact ⟨⟨xs.length, 0⟩, rfl, ⟨rfl, 0, rfl, Nat.zero_le _, fun j hj => by omega⟩, fun d hI => right_of mayF xs hx hI _ rfl⟩
theorem rright_run (xs : List Value) (hx : xs.length ≤ 1000000) : runP std (noCon.draw [(18, dcon (rmayP kvF))]) 40 (walkLs 34 0 5 6 7 xs (rightI rmayF xs) fun d => (d.n - d.i).toNat) (rrightP std kvF) 24 Try.f24 (xs, ()) := by
  rw [rright_vc]
  exact ⟨⟨xs.length, 0⟩, rfl, ⟨rfl, 0, rfl, Nat.zero_le _, fun j hj => by omega⟩, fun d hI => right_of rmayF xs hx hI _ rfl⟩
theorem eqB_iff {a b : ByteArray} : eqB a b = true ↔ a = b := by
  unfold eqB
  rw [beq_iff_eq]
  refine ⟨fun h => ?_, fun h => by rw [h]⟩
  cases a; cases b
  simp only [ByteArray.mk.injEq]
  exact Array.toList_inj.1 h
def sameI (p : Nat → Bool) (n : Nat) (d : IL) : Prop := ∃ i : Nat, d.i = i ∧ i ≤ n ∧ ∀ j, j < i → p j = true
theorem same_run (xs ys : List Value) (hx : xs.length ≤ 1000000) : runP std noCon 40 (sameLs zP xs ys (fun d => xs.length = ys.length ∧ sameI (sameAt xs ys) xs.length d) fun d => ((xs.length : Int) - d.i).toNat) (sameP std kvF) 14 Try.f14 (xs, ys, ()) := by
  rw [same_vc]
  have key : ∀ b, sameF xs ys = b → ([Value.bool b] = [Value.bool (sameF xs ys)]) := fun b hb => by rw [hb]
  refine ⟨fun h => key _ ?_, fun h => ?_⟩
  · unfold sameF
    have : (xs.length == ys.length) = false := by simp at h; simp; omega
    rw [this]; rfl
  · have hl : xs.length = ys.length := by have := h; simp at this; omega
    refine ⟨⟨0⟩, rfl, ⟨hl, 0, rfl, Nat.zero_le _, fun j hj => by omega⟩, fun d ⟨_, i, hi, hle, hall⟩ => ⟨fun h => ?_, fun h => key _ ?_⟩⟩
    · have h := of_decide_eq_true h
      rw [hi, Int.toNat_natCast]
      refine ⟨by omega, by omega, fun e => key _ ?_, fun e => ⟨by omega, ⟨(i : Int) + 1⟩, rfl, ?_, hl, i + 1, rfl, by omega, fun j hj => ?_⟩⟩
      · have e : (!sameAt xs ys i) = true := e
        have e : sameAt xs ys i = false := by simpa using e
        unfold sameF
        rw [all_not (i := i) (by omega) e, Bool.and_false]
      · show ((xs.length : Int) - ((i : Int) + 1)).toNat + 1 ≤ ((xs.length : Int) - (i : Int)).toNat
        omega
      · by_cases c : j = i
        · subst c
          have e : (!sameAt xs ys j) = false := e
          simpa using e
        · exact hall j (by omega)
    · have h := of_decide_eq_false h
      unfold sameF
      rw [all_yes fun j hj => hall j (by omega), hl]; simp
theorem sameb_run (xs ys : List Value) (hx : xs.length ≤ 1000000) : runP std noCon 40 (sameLs (.int .u8 0) xs ys (fun d => xs.length = ys.length ∧ sameI (fun i => eB xs i == eB ys i) xs.length d) fun d => ((xs.length : Int) - d.i).toNat) (samebP std kvF) 22 Try.f22 (xs, ys, ()) := by
  rw [sameb_vc]
  have key : ∀ b, samebF xs ys = b → ([Value.bool b] = [Value.bool (samebF xs ys)]) := fun b hb => by rw [hb]
  refine ⟨fun h => key _ ?_, fun h => ?_⟩
  · unfold samebF
    have : (xs.length == ys.length) = false := by simp at h; simp; omega
    rw [this]; rfl
  · have hl : xs.length = ys.length := by have := h; simp at this; omega
    refine ⟨⟨0⟩, rfl, ⟨hl, 0, rfl, Nat.zero_le _, fun j hj => by omega⟩, fun d ⟨_, i, hi, hle, hall⟩ => ⟨fun h => ?_, fun h => key _ ?_⟩⟩
    · have h := of_decide_eq_true h
      rw [hi, Int.toNat_natCast]
      refine ⟨by omega, by omega, fun e => key _ ?_, fun e => ⟨by omega, ⟨(i : Int) + 1⟩, rfl, ?_, hl, i + 1, rfl, by omega, fun j hj => ?_⟩⟩
      · have e : (!(eB xs i == eB ys i)) = true := e
        have e : (eB xs i == eB ys i) = false := by simpa using e
        unfold samebF
        rw [all_not (p := fun i => eB xs i == eB ys i) (i := i) (by omega) e, Bool.and_false]
      · show ((xs.length : Int) - ((i : Int) + 1)).toNat + 1 ≤ ((xs.length : Int) - (i : Int)).toNat
        omega
      · by_cases c : j = i
        · subst c
          have e : (!(eB xs j == eB ys j)) = false := e
          simpa using e
        · exact hall j (by omega)
    · have h := of_decide_eq_false h
      unfold samebF
      rw [all_yes fun j hj => hall j (by omega), hl]; simp
theorem first_run (xs : List Value) (k : ByteArray) (hx : xs.length ≤ 1000000) : runP std (bsCon std kvF) 40 noL (firstP std kvF) 10 Try.f10 (xs, k, ()) := by
  rw [first_vc]
  exact ⟨hx, fun _ => rfl, fun _ => rfl⟩
theorem get_run (xs : List Value) (k : ByteArray) (hx : xs.length ≤ 1000000) : runP std (bsCon std kvF) 40 noL (getP std kvF) 20 Try.f20 (xs, k, ()) := by
  rw [get_vc]
  have hr := bsF_range xs k
  refine ⟨hx, fun e => ⟨⟨hr.1, fd_lt e⟩, ?_⟩, fun e => ?_⟩
  · show _ = [Value.string (getF xs k), Value.bool (fdF xs k)]
    have e : fdF xs k = true := e
    unfold getF
    rw [if_pos e, e]; rfl
  · show _ = [Value.string (getF xs k), Value.bool (fdF xs k)]
    have e : fdF xs k = false := e
    unfold getF
    rw [if_neg (by rw [e]; exact Bool.false_ne_true), e]; rfl
theorem firstN_ok (p : Nat → Bool) : ∀ (n i : Nat), i ≤ firstN p n i ∧ firstN p n i ≤ i + n ∧ (∀ j, i ≤ j → j < firstN p n i → p j = true) ∧ (firstN p n i < i + n → p (firstN p n i) = false)
  | 0, i => ⟨Nat.le_refl _, Nat.le_refl _, fun j h1 h2 => by simp [firstN] at h2; omega, fun h => by simp [firstN] at h⟩
  | n + 1, i => by
    unfold firstN
    split
    · rename_i h
      obtain ⟨h1, h2, h3, h4⟩ := firstN_ok p n (i + 1)
      refine ⟨by omega, by omega, fun j h5 h6 => ?_, fun h5 => h4 (by omega)⟩
      by_cases e : j = i
      · subst e; exact h
      · exact h3 j (by omega) h6
    · rename_i h
      exact ⟨Nat.le_refl _, by omega, fun j h1 h2 => by omega, fun _ => by simpa using h⟩
theorem firstN_eq {p : Nat → Bool} {n i : Nat} (hi : i ≤ n) (h1 : ∀ j, j < i → p j = true) (h2 : i < n → p i = false) : firstN p n 0 = i := by
  obtain ⟨_, h4, h5, h6⟩ := firstN_ok p n 0
  rcases Nat.lt_trichotomy (firstN p n 0) i with h | h | h
  · have := h6 (by omega)
    rw [h1 _ h] at this; cases this
  · exact h
  · have := h5 i (Nat.zero_le _) h
    rw [h2 (by omega)] at this; cases this
theorem rfirst_range (xs : List Value) (k : ByteArray) : 0 ≤ rfirstF xs k ∧ rfirstF xs k ≤ (xs.length : Int) := by
  have := (firstN_ok (fun i => ltB (kP xs i) k) xs.length 0).2.1
  unfold rfirstF
  omega
theorem rfirst_run (xs : List Value) (k : ByteArray) (hx : xs.length ≤ 1000000) : runP std noCon 40 (rfirstLs xs k (sameI (fun i => ltB (kP xs i) k) xs.length) fun d => ((xs.length : Int) - d.i).toNat) (rfirstP std kvF) 21 Try.f21 (xs, k, ()) := by
  rw [rfirst_vc]
  refine ⟨⟨0⟩, rfl, ⟨0, rfl, Nat.zero_le _, fun j hj => by omega⟩, fun d ⟨i, hi, hle, hall⟩ => ?_⟩
  have key : rfirstF xs k = i → ([Value.int IntKind.i64 d.i] = [Value.int IntKind.i64 (rfirstF xs k)]) := fun h => by rw [h, hi]
  refine ⟨fun h => ?_, fun h => key ?_⟩
  · have h := of_decide_eq_true h
    refine ⟨by omega, fun e => ⟨by omega, ⟨d.i + 1⟩, rfl, ?_, i + 1, by show d.i + 1 = _; omega, by omega, fun j hj => ?_⟩, fun e => key ?_⟩
    · show ((xs.length : Int) - (d.i + 1)).toNat + 1 ≤ ((xs.length : Int) - d.i).toNat
      omega
    · by_cases c : j = i
      · subst c; rw [hi, Int.toNat_natCast] at e; exact e
      · exact hall j (by omega)
    · rw [hi, Int.toNat_natCast] at e
      unfold rfirstF
      rw [firstN_eq hle hall fun _ => e]
  · have h := of_decide_eq_false h
    unfold rfirstF
    rw [firstN_eq hle hall fun h2 => by omega]
theorem delL_len (xs : List Value) (k : ByteArray) : ∀ i, (delL xs k i).length ≤ i
  | 0 => Nat.le_refl _
  | i + 1 => by
    have := delL_len xs k i
    unfold delL
    split
    · omega
    · simp; omega
theorem rdel_run (xs : List Value) (k : ByteArray) (hx : xs.length ≤ 1000000) : runP std noCon 40 (rdelLs xs k (fun d => d.n = xs.length ∧ ∃ i : Nat, d.i = i ∧ i ≤ xs.length ∧ d.r = delL xs k i) fun d => (d.n - d.i).toNat) (rdelP std kvF) 17 Try.f17 (xs, k, ()) := by
  rw [rdel_vc]
  refine ⟨⟨xs.length, 0, []⟩, rfl, ⟨rfl, 0, rfl, Nat.zero_le _, rfl⟩, fun d ⟨hn, i, hi, hle, hr⟩ => ⟨fun h => ?_, fun h => ?_⟩⟩
  · have h := of_decide_eq_true h
    have hlen := delL_len xs k i
    have hd : delL xs k (i + 1) = if eqB (kP xs i) k then delL xs k i else delL xs k i ++ [prV (kP xs i) (vP xs i)] := rfl
    rw [hi, Int.toNat_natCast]
    refine ⟨by omega, fun e => ⟨?_, by omega, ⟨d.n, i + 1, delL xs k (i + 1)⟩, ?_, ?_, hn, i + 1, rfl, by omega, rfl⟩, fun e => ⟨by omega, ⟨d.n, i + 1, delL xs k (i + 1)⟩, ?_, ?_, hn, i + 1, rfl, by omega, rfl⟩⟩
    · rw [List.length_append, hr]
      show ((delL xs k i).length + 1) * 32 ≤ _
      omega
    · have e : (!eqB (kP xs i) k) = true := e
      have e : eqB (kP xs i) k = false := by simpa using e
      show [_, Filler.dl (delL xs k (i + 1)), _, _, _] = _
      rw [hd, if_neg (by rw [e]; exact Bool.false_ne_true), hr]; rfl
    · show (d.n - ((i : Int) + 1)).toNat + 1 ≤ (d.n - (i : Int)).toNat
      omega
    · have e : (!eqB (kP xs i) k) = false := e
      have e : eqB (kP xs i) k = true := by simpa using e
      show [_, Filler.dl (delL xs k (i + 1)), _, _, _] = _
      rw [hd, if_pos e, hr]
    · show (d.n - ((i : Int) + 1)).toNat + 1 ≤ (d.n - (i : Int)).toNat
      omega
  · have h := of_decide_eq_false h
    rw [hr, show i = xs.length by omega]; rfl
theorem rset_run (xs : List Value) (k v : ByteArray) (hx : xs.length ≤ 1000000) : runP std (conL [(21, pcon (rfirstP std kvF))]) 40 noL (rsetP std kvF) 19 Try.f19 (xs, (k, v, ()), ()) := by
  rw [rset_vc]
  have hr := rfirst_range xs k
  have len1 : ∀ i : Nat, (List.take (i - 0) (List.drop 0 xs)).length * 32 ≤ 140737488355328 := fun i => by
    rw [List.length_take]
    have := Nat.min_le_right (i - 0) (List.drop 0 xs).length
    rw [List.drop_zero] at this ⊢; omega
  have len2 : ∀ i : Nat, (List.take (i - 0) (List.drop 0 xs) ++ [prV k v]).length * 32 ≤ 140737488355328 := fun i => by
    have := len1 i
    rw [List.length_append]
    have h3 : (List.take (i - 0) (List.drop 0 xs)).length ≤ 1000000 := by
      rw [List.length_take, List.drop_zero]; omega
    show (_ + 1) * 32 ≤ _
    omega
  have len3 : ∀ i j : Nat, ((List.take (i - 0) (List.drop 0 xs) ++ [prV k v]) ++ List.take (xs.length - j) (List.drop j xs)).length * 32 ≤ 140737488355328 := fun i j => by
    rw [List.length_append, List.length_append]
    have h3 : (List.take (i - 0) (List.drop 0 xs)).length ≤ 1000000 := by
      rw [List.length_take, List.drop_zero]; omega
    have h4 : (List.take (xs.length - j) (List.drop j xs)).length ≤ 1000000 := by
      rw [List.length_take, List.length_drop]; omega
    show (_ + 1 + _) * 32 ≤ _
    omega
  have tk : ∀ j : Nat, List.take (xs.length - j) (List.drop j xs) = xs.drop j := fun j => List.take_of_length_le (by rw [List.length_drop]; omega)
  have key : ∀ (b : Bool) (j : Nat), (decide (rfirstF xs k < (xs.length : Int)) && eqB (kP xs (rfirstF xs k).toNat) k) = b → j = (if b then (rfirstF xs k).toNat + 1 else (rfirstF xs k).toNat) → ([dsl zP ((List.take ((rfirstF xs k).toNat - 0) (List.drop 0 xs) ++ [prV k v]) ++ List.take (xs.length - j) (List.drop j xs))] = [dsl zP (rsetF xs k v)]) := by
    intro b j hb hj
    unfold rsetF putF
    rw [hb, tk, hj, Nat.sub_zero, List.drop_zero]
  refine ⟨hx, ⟨trivial, hr⟩, fun h => ?_, fun h => ?_⟩
  · have h1 := of_decide_eq_true h
    refine ⟨⟨hr.1, h1⟩, fun e => ⟨?_, ⟨trivial, ?_⟩, ⟨hr, trivial⟩, len1 _, len2 _, len3 _ _, ⟨rfl, rfl⟩, key true _ ?_ ?_⟩, fun e => ⟨⟨hr, trivial⟩, len1 _, len2 _, len3 _ _, ⟨rfl, rfl⟩, key false _ ?_ rfl⟩⟩
    · have : rfirstF xs k < (xs.length : Int) := h1
      show -9223372036854775808 ≤ rfirstF xs k + 1 ∧ rfirstF xs k + 1 ≤ 9223372036854775807
      omega
    · have : rfirstF xs k < (xs.length : Int) := h1
      show 0 ≤ rfirstF xs k + 1 ∧ rfirstF xs k + 1 ≤ (xs.length : Int)
      omega
    · rw [show decide (rfirstF xs k < (xs.length : Int)) = true from h]; exact e
    · show (rfirstF xs k + 1).toNat = _
      rw [if_pos rfl]; omega
    · rw [show decide (rfirstF xs k < (xs.length : Int)) = true from h]; exact e
  · refine ⟨⟨hr, trivial⟩, len1 _, len2 _, len3 _ _, ⟨rfl, rfl⟩, key false _ ?_ rfl⟩
    rw [show decide (rfirstF xs k < (xs.length : Int)) = false from h]; rfl
end Go.Proofs.Ytolkoacllaaceaa
