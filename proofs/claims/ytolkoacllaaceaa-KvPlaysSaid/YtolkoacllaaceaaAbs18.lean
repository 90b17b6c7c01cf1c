/-
  THE ABSTRACT EVALUATOR: what the program owes, out of its check; a call of a whole function from values without memory.
-/
import Derived.Test.YtolkoacllaaceaaAbs17
import Derived.Below
namespace Go.Abs
open Go

theorem vbeq1_eq {a b : Value} (h : vbeq1 a b = true) : a = b := by
  cases a <;> cases b <;> simp only [vbeq1, Bool.and_eq_true, beq_iff_eq, Bool.false_eq_true] at h
  case string.string s t =>
    have : s = t := by
      cases s; cases t
      simp only [ByteArray.mk.injEq]
      exact Array.toList_inj.1 h
    rw [this]
  case func.func f a b g c d =>
    cases f <;> cases g <;> simp only [Bool.and_eq_true, beq_iff_eq, Bool.false_eq_true] at h
    obtain ⟨⟨⟨⟨rfl, ha⟩, hb⟩, hc⟩, hd⟩ := h
    have e : ∀ {x : Array Value}, x.toList.isEmpty = true → x = #[] := fun {x} h => Array.toList_eq_nil_iff.1 (List.isEmpty_iff.1 h)
    rw [e ha, e hb, e hc, e hd]
  all_goals (try (first | rfl | (subst h; rfl) | (obtain ⟨h1, h2⟩ := h; subst h2; first | (subst h1; rfl) | (obtain ⟨h1, h3⟩ := h1; subst h1; subst h3; rfl))))
theorem vbeqL_eq : ∀ {a b : List Value}, vbeqL a b = true → a = b
  | [], [], _ => rfl
  | [], _ :: _, h => by simp [vbeqL] at h
  | _ :: _, [], h => by simp [vbeqL] at h
  | x :: a, y :: b, h => by
    simp only [vbeqL, Bool.and_eq_true] at h
    rw [vbeq1_eq h.1, vbeqL_eq h.2]
theorem vbeq_eq (a b : Value) (h : vbeq a b = true) : a = b := by
  unfold vbeq at h
  split at h
  · rw [Array.toList_inj.1 (vbeqL_eq h)]
  · rw [Array.toList_inj.1 (vbeqL_eq h)]
  · exact vbeq1_eq h

section
variable {P : Program}

theorem bind_okE {ε α β : Type} {x : Except ε α} {f : α → Except ε β} {b : β} (h : (x >>= f) = .ok b) : ∃ a, x = .ok a ∧ f a = .ok b := by
  cases x with
  | error e => cases h
  | ok a => exact ⟨a, rfl, h⟩
theorem mapErrorE {ε ε' α : Type} {f : ε → ε'} {x : Except ε α} {a : α} (h : x.mapError f = .ok a) : x = .ok a := by
  cases x with
  | error e => cases h
  | ok b => cases h; rfl
theorem forM_E {f : Nat → Except String Unit} : ∀ {l : List Nat}, l.forM f = .ok () → ∀ i ∈ l, f i = .ok ()
  | [], _, i, hi => (List.not_mem_nil hi).elim
  | x :: l, h, i, hi => by
    have h' : (do f x; l.forM f) = Except.ok () := h
    obtain ⟨_, hx, h⟩ := bind_okE h'
    rcases List.mem_cons.1 hi with rfl | hi
    · exact hx
    · exact forM_E h i hi

theorem okCode_of {f : Func} : ∀ {c : Code} {bs ls : List Nat}, CheckCode.code P f bs ls c = .ok () → OkCode c
  | .region id ops d, bs, ls, h => by
    intro hd
    have h' : CheckCode.region P f id ops d = .ok () := h
    unfold CheckCode.region at h'
    obtain ⟨_, _, h'⟩ := bind_okE h'
    obtain ⟨_, _, h'⟩ := bind_okE h'
    unfold CheckCode.require at h'
    split at h'
    · rename_i hk; exact rok_of hk
    · cases h'
  | .seq a b, bs, ls, h => by
    have h' : (do CheckCode.code P f bs ls a; CheckCode.code P f bs ls b) = Except.ok () := h
    obtain ⟨_, h1, h2⟩ := bind_okE h'
    exact ⟨okCode_of h1, okCode_of h2⟩
  | .cond c a b, bs, ls, h => by
    have h' : (do (CheckCode.operand P f c).mapError ("cond: " ++ ·); CheckCode.code P f bs ls a; CheckCode.code P f bs ls b) = Except.ok () := h
    obtain ⟨_, _, h'⟩ := bind_okE h'
    obtain ⟨_, h1, h2⟩ := bind_okE h'
    exact ⟨okCode_of h1, okCode_of h2⟩
  | .block id c, bs, ls, h => okCode_of (c := c) (bs := id :: bs) (ls := ls) h
  | .loop c, bs, ls, h => okCode_of (c := c) (bs := bs) (ls := ls) h
  | .scope c, bs, ls, h => okCode_of (c := c) (bs := bs) (ls := CheckCode.spine c ++ ls) h
  | .skip, _, _, _ => trivial
  | .ret, _, _, _ => trivial
  | .label _, _, _, _ => trivial
  | .refuse _, _, _, _ => trivial
  | .exit _, _, _, _ => trivial
  | .goto _, _, _, _ => trivial
  | .rangeFunc .., _, _, _ => trivial

theorem okFunc_of {f : Func} {c : Code} (h : CheckCode.func P f = .ok ()) (hb : f.body = some c) : OkCode c := by
  unfold CheckCode.func at h
  obtain ⟨_, _, h⟩ := bind_okE h
  obtain ⟨_, _, h⟩ := bind_okE h
  obtain ⟨_, _, h⟩ := bind_okE h
  rw [hb] at h
  obtain ⟨_, _, h⟩ := bind_okE h
  obtain ⟨_, h1, _⟩ := bind_okE h
  exact okCode_of h1

theorem progOk_of (h : P.check = .ok ()) (hm : P.follows .mixedOrders = true) (hn : (P.funcs.all fun f => f.name != "runtime.NumGoroutine") = true) : ProgOk P := by
  refine ⟨hm, fun {f fn c} hf hb => ?_, fun {f fn} hf => ?_⟩
  · unfold Program.check at h
    obtain ⟨_, h1, _⟩ := bind_okE h
    have hlt : f < P.funcs.size := by
      rcases Nat.lt_or_ge f P.funcs.size with h2 | h2
      · exact h2
      · rw [Array.getElem?_eq_none h2] at hf; cases hf
    have h2 := forM_E h1 f (List.mem_range.2 hlt)
    unfold CheckCode.funcAt at h2
    rw [hf] at h2
    exact okFunc_of (mapErrorE h2) hb
  · rw [Array.all_eq_true] at hn
    obtain ⟨hlt, he⟩ := Array.getElem?_eq_some_iff.1 hf
    have := hn f hlt
    rw [he] at this
    simpa using this

theorem vr_plain_eq {μ : Mu} {v v' : Value} (h : VR μ v v') (hp : plain1 v = true) : v' = v := by
  cases h with
  | tup _ => simp [plain1] at hp
  | dead => simp [plain1, dead] at hp
  | a h =>
    cases h with
    | agg _ => simp [plain1] at hp
    | one h =>
      cases h with
      | func h0 h1 h2 =>
        simp only [plain1, Bool.and_eq_true, Array.isEmpty_iff] at hp
        obtain ⟨rfl, rfl⟩ := hp
        rw [Array.toList_eq_nil_iff.1 h1.inv_nil, Array.toList_eq_nil_iff.1 h2.inv_nil]
      | iface _ => simp [plain1] at hp
      | zero h =>
        cases h with
        | plain _ => rfl
        | ptr _ => simp [plain1] at hp
        | slice _ _ _ => simp [plain1] at hp
        | slice0 _ _ => simp [plain1] at hp
        | mark _ _ => simp [plain1, mk] at hp
        | map _ => simp [plain1] at hp
        | tok _ => simp [plain1] at hp
        | deep _ => simp [plain1, dsl] at hp
        | osl _ _ _ => simp [plain1, Abs.osq] at hp
        | fptr _ _ _ => simp [plain1, Abs.fptr] at hp
        | rptr _ => simp [plain1, Abs.rptr] at hp
        | mbool => simp [plain1, mkb] at hp

def MuN : Mu := ⟨fun _ => none, fun _ _ => none⟩

theorem rel_none (g : Gm) {base : Nat} {w : World} (h : base ≤ w.heap.size) : Rel MuN base g w :=
  ⟨h, fun _ _ _ hb => (by cases hb), fun _ _ _ _ _ _ hb => (by cases hb), fun _ _ _ hb => (by cases hb)⟩

/-- A CALL OF A WHOLE FUNCTION. -/
theorem calls_of_callN (hP : ProgOk P) {X : Known} (hX : KnownOk P X) {chk : Chk} (hchk : ∀ a b, chk a b = true → a = b) {n : Nat} {f : FuncId} {fn : Func} {c : Code} {args : List Value} {args' : Array Value} {v : Value} {h' : Hp}
    (hf : P.funcs[f]? = some fn) (hb : fn.body = some c) (hr : callN chk P X n f args H0 = some (v, h')) (hl : All2 (VR MuN) args args'.toList) (w : World) :
    Calls P f args' w fun e w' => RowKit.Below w.heap.size w w' ∧ ∃ v' μ', e = .returned v' ∧ Out MuN w.heap.size H0 w v h' v' w' μ' := by
  have hcall : CallOk P (callN chk P X n) := callWith_ok hP hX (run_sound hP hX hchk n)
  have hd := hcall.2 hr hl (rel_none H0.get (Nat.le_refl w.heap.size)) (fun _ _ _ => rfl)
  rcases hd with ⟨v', w', h1, _⟩ | ⟨_, h2⟩
  · have hn := hP.name hf
    simp [callFunc, hf, hn, hb] at h1
  · refine h2.mono ?_
    rintro e w' ⟨v', rfl, μ', ho⟩
    refine ⟨⟨ho.sim.fr.os, ho.sim.fr.tape, ho.sim.fr.output, ho.sim.fr.size, fun k hk => ho.sim.fr.block k hk fun _ _ _ hb => by cases hb⟩, v', μ', rfl, ho⟩
end
end Go.Abs
