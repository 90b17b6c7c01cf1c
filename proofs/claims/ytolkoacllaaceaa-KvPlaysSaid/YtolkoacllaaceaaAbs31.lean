/-
  UNKNOWN VALUES AND THE MODEL: operations that look at no memory.
-/
import Derived.Test.YtolkoacllaaceaaAbs30
import Derived.Laws.StructEq
import Derived.ChangeKeysEq
namespace Go.Abs
open Go

section
variable {P : Program} {μ : Mu}

theorem den_cases (v : Value) : Abs.den v = v ∨ ∃ w, v = mk w ∧ markable w = true ∧ Abs.den v = w := by
  unfold Abs.den
  split
  · split
    · rename_i first cap _ _ w hf hc
      split
      · rename_i hm
        refine .inr ⟨w, ?_, hm, rfl⟩
        have h1 : first = #[w] := Array.toList_inj.1 hf
        have h2 : cap = #[] := Array.toList_inj.1 hc
        rw [h1, h2]; rfl
      · exact .inl rfl
    · exact .inl rfl
  · exact .inl rfl
theorem den_mk {w : Value} (h : markable w = true) : Abs.den (mk w) = w := by
  show (if markable w then w else mk w) = w
  rw [if_pos h]
theorem markable_basic {w : Value} (h : markable w = true) : isBasic w = true := by cases w <;> first | (simp [markable] at h; done) | rfl

theorem VR.den {v v' : Value} (h : VR μ v v') : VR μ (Abs.den v) v' := by
  rcases den_cases v with e | ⟨w, rfl, hm, e⟩
  · rw [e]; exact h
  · rw [e]
    cases h with
    | a h => cases h with
      | one h => cases h with
        | func h0 _ _ => simp [isYield] at h0
        | zero h => cases h with
          | mark h _ => exact .zero h
          | plain hp => simp [Abs.plain1, mk] at hp
theorem VR1.den_iff {v v' : Value} : VR1 μ (Abs.den v) v' ↔ VR1 μ v v' := by
  rcases den_cases v with e | ⟨w, rfl, hm, e⟩
  · rw [e]
  · rw [e]
    constructor
    · intro h
      exact .zero (.mark (h.zero_of_basic (markable_basic hm)) hm)
    · intro h
      have := (VR.one h).den
      rw [e] at this
      exact this.one_of_oneCell (by cases w <;> first | (simp [markable] at hm; done) | rfl)

theorem OpR.den {ρ ρ' : Operand → Value} {xs : List Operand} (h : OpR μ ρ ρ' xs) : OpR μ (fun x => Abs.den (ρ x)) ρ' xs := fun x hx => (h x hx).den

/-- A value, or that value marked. -/
def Marks (v raw : Value) : Prop := v = raw ∨ (v = mk raw ∧ markable raw = true)
theorem Marks.vr {v raw v' : Value} (h : Marks v raw) (r : VR μ raw v') : VR μ v v' := by
  rcases h with rfl | ⟨rfl, hm⟩
  · exact r
  · refine .zero (.mark ?_ hm)
    refine r.zero_of_basic ?_
    cases raw <;> first | (simp [markable] at hm; done) | rfl

theorem semT_of {ρ : Operand → Value} {o : Oper} {v raw : Value} (h : stepT P (fun x => den (ρ x)) o = some raw) (hm : Marks v raw) : SemT P ρ o v := by
  intro μ ρ' w hr
  obtain ⟨v', h1, h2⟩ := simT h hr.den w
  exact ⟨v', h1, hm.vr h2⟩

/-- The ways an operation may come to its end: one of them holds; each is as the model's. -/
def AltsOk (alts : List Alt) (G : Alt → Prop) : Prop := (∃ a ∈ alts, holds a.cond) ∧ ∀ a ∈ alts, holds a.cond → holds a.ob → G a

theorem alts_one {h : Hp} {ob : Prop} {v : Value} {alts : List Alt} {G : Alt → Prop} (e : one h ob v = some alts) (hg : ob → G ⟨none, some ob, v, h⟩) : AltsOk alts G := by
  unfold one at e
  simp only [Option.some.injEq] at e; subst e
  exact ⟨⟨_, List.mem_singleton.2 rfl, trivial⟩, fun a ha _ ho => by rw [List.mem_singleton.1 ha] at ho ⊢; exact hg ho⟩
theorem alts_pure {h : Hp} {v : Value} {alts : List Alt} {G : Alt → Prop} (e : pure1 h v = some alts) (hg : G ⟨none, none, v, h⟩) : AltsOk alts G := by
  unfold pure1 at e
  simp only [Option.some.injEq] at e; subst e
  exact ⟨⟨_, List.mem_singleton.2 rfl, trivial⟩, fun a ha _ _ => by rw [List.mem_singleton.1 ha]; exact hg⟩
theorem alts_two {h : Hp} {b : Bool} {alts : List Alt} {G : Alt → Prop} (e : two h b = some alts) (ht : b = true → G ⟨some (b = true), none, .bool true, h⟩) (hf : b = false → G ⟨some (b = false), none, .bool false, h⟩) : AltsOk alts G := by
  unfold two at e
  simp only [Option.some.injEq] at e; subst e
  refine ⟨?_, fun a ha hc _ => ?_⟩
  · cases hb : b
    · exact ⟨_, List.mem_cons_of_mem _ (List.mem_singleton.2 rfl), rfl⟩
    · exact ⟨_, List.mem_cons_self, rfl⟩
  · rcases List.mem_cons.1 ha with rfl | ha
    · exact ht hc
    · rw [List.mem_singleton.1 ha] at hc ⊢; exact hf hc

theorem evalSem_bind {α β : Type} (s : Sem α) (f : α → Sem β) : evalSem P (s >>= f) = (evalSem P s).bind fun a => evalSem P (f a) := by
  show evalSem P (Sem.bind s f) = _
  induction s with
  | pure a => rfl
  | program k ih => exact ih P
  | mark m k ih => exact ih
  | _ => rfl
theorem evalSem_underlying {t : TypeId} {d : TypeDesc} (h : P.underlying t = some d) : evalSem P (underlying t) = some d := by
  unfold underlying
  rw [evalSem_bind]
  show (some P).bind _ = _
  simp only [Option.bind_some, h]
  rfl

theorem wrap_i64 {n : Int} (h : -9223372036854775808 ≤ n ∧ n ≤ 9223372036854775807) : IntKind.i64.wrap n = n := by
  have e : IntKind.i64.wrap n = (if n % 18446744073709551616 ≥ 9223372036854775808 then n % 18446744073709551616 - 18446744073709551616 else n % 18446744073709551616) := by
    simp [IntKind.wrap, IntKind.bits, IntKind.signed]
  rw [e]
  split <;> omega

theorem tdiv_range {m n : Int} (h1 : 0 < n) (h2 : -9223372036854775808 ≤ m ∧ m ≤ 9223372036854775807) : -9223372036854775808 ≤ m.tdiv n ∧ m.tdiv n ≤ 9223372036854775807 := by
  have h3 : (m.tdiv n).natAbs ≤ m.natAbs := by rw [Int.natAbs_tdiv]; exact Nat.div_le_self _ _
  rcases Int.le_total 0 m with h | h
  · have := Int.tdiv_nonneg h (Int.le_of_lt h1)
    omega
  · have h4 := Int.tdiv_nonneg (a := -m) (b := n) (by omega) (Int.le_of_lt h1)
    rw [Int.neg_tdiv] at h4
    omega

theorem bin_int {op : BinOp} {t : TypeId} {x y : Operand} {k k' : IntKind} {m n : Int} {v : Value} (h : evalSem P (binOp op t (.int k m) (.int k' n)) = some v) (hp : plainV v = true) :
    binA P op t x y (.int k m) (.int k' n) = some v := by
  unfold binA
  have h1 : evalSem P (do eqGuard op t x y (.int k m) (.int k' n); binOp op t (.int k m) (.int k' n)) = some v := by
    unfold eqGuard
    cases op <;> exact h
  have h2 : filterPlain (some v) = some v := by unfold filterPlain; simp only [hp, if_true]
  simp only [show plainV (.int k m) = true from rfl, show plainV (.int k' n) = true from rfl, Bool.and_self, if_true, h1]
  exact h2

theorem symInt_ok {ρ : Operand → Value} {o : Oper} {op : BinOp} {t : TypeId} {x y : Operand} {c : TypeId} {k : IntKind} {m n : Int} {h : Hp} {alts : List Alt} (ho : o.op = .binOp op t x y c)
    (hx : den (ρ x) = .int k m) (hy : den (ρ y) = .int k n) (hns : op ≠ .shl ∧ op ≠ .shr) (e : symInt std h op k m n = some alts) : AltsOk alts fun a => a.h = h ∧ SemT P ρ o a.v := by
  have mkT : ∀ {v raw : Value}, evalSem P (binOp op t (.int k m) (.int k n)) = some raw → plainV raw = true → Marks v raw → SemT P ρ o v := by
    intro v raw h1 h2 h3
    refine semT_of (raw := raw) ?_ h3
    unfold stepT
    rw [ho]
    simp only [hx, hy]
    exact bin_int h1 h2
  have cmp : ∀ (b : Bool), op ≠ .add → op ≠ .sub → op ≠ .mul → op ≠ .quo → op ≠ .rem → op ≠ .and → op ≠ .or → op ≠ .xor → op ≠ .andNot → evalSem P (Op.intCmp op m n) = some (.bool b) → two h b = some alts → AltsOk alts fun a => a.h = h ∧ SemT P ρ o a.v := by
    intro b h1 h2 h3 h4 h5 h6 h7 h8 h9 hb e
    have hv : evalSem P (binOp op t (.int k m) (.int k n)) = some (.bool b) := by
      unfold binOp
      cases op <;> first | (exact absurd rfl hns.1) | (exact absurd rfl hns.2) | contradiction | (simp only [ne_eq, not_true_eq_false, if_false]; exact hb)
    exact alts_two e (fun hb => by subst hb; exact ⟨rfl, mkT hv rfl (.inl rfl)⟩) (fun hb => by subst hb; exact ⟨rfl, mkT hv rfl (.inl rfl)⟩)
  have arp : ∀ {r : Int}, evalSem P (binOp op t (.int k m) (.int k n)) = some (.int k r) → pure1 h (mk (.int k r)) = some alts → AltsOk alts fun a => a.h = h ∧ SemT P ρ o a.v := by
    intro r h1 e
    exact alts_pure e ⟨rfl, mkT h1 rfl (.inr ⟨rfl, rfl⟩)⟩
  have ari : ∀ {ob : Prop} {r : Int}, (ob → evalSem P (binOp op t (.int k m) (.int k n)) = some (.int k r)) → one h ob (mk (.int k r)) = some alts → AltsOk alts fun a => a.h = h ∧ SemT P ρ o a.v := by
    intro ob r h1 e
    exact alts_one e fun hob => ⟨rfl, mkT (h1 hob) rfl (.inr ⟨rfl, rfl⟩)⟩
  unfold symInt at e
  split at e
  · refine ari (fun hob => ?_) e
    simp only [binOp, Op.intArith, ne_eq, not_true_eq_false, if_false]
    rw [← wrap_i64 hob]; rfl
  · refine ari (fun hob => ?_) e
    simp only [binOp, Op.intArith, ne_eq, not_true_eq_false, if_false]
    rw [← wrap_i64 hob]; rfl
  · refine ari (fun hob => ?_) e
    simp only [binOp, Op.intArith, ne_eq, not_true_eq_false, if_false]
    rw [← wrap_i64 hob]; rfl
  · refine ari (fun hob => ?_) e
    obtain ⟨h1, h2⟩ := hob
    have h1 : 0 < n := h1
    have h2 : -9223372036854775808 ≤ m ∧ m ≤ 9223372036854775807 := h2
    have hq := tdiv_range h1 h2
    simp only [binOp, Op.intDiv, ne_eq, not_true_eq_false, if_false, if_neg (show ¬ n = 0 by omega)]
    show some (Value.int IntKind.i64 (IntKind.i64.wrap (m.tdiv n))) = _
    rw [wrap_i64 hq]; rfl
  · exact arp (by simp only [binOp, Op.intArith, ne_eq, not_true_eq_false, if_false]; rfl) e
  · exact arp (by simp only [binOp, Op.intArith, ne_eq, not_true_eq_false, if_false]; rfl) e
  · exact arp (by simp only [binOp, Op.intArith, ne_eq, not_true_eq_false, if_false]; rfl) e
  · refine ari (fun hob => ?_) e
    have hob : 0 < n := hob
    simp only [binOp, Op.intDiv, ne_eq, not_true_eq_false, if_false, if_neg (show ¬ n = 0 by omega)]; rfl
  · refine ari (fun hob => ?_) e
    have hob : 0 < n := hob
    simp only [binOp, Op.intDiv, ne_eq, not_true_eq_false, if_false, if_neg (show ¬ n = 0 by omega)]; rfl
  · exact arp (by simp only [binOp, Op.intBits, ne_eq, not_true_eq_false, if_false]; rfl) e
  · exact arp (by simp only [binOp, Op.intBits, ne_eq, not_true_eq_false, if_false]; rfl) e
  · exact arp (by simp only [binOp, Op.intBits, ne_eq, not_true_eq_false, if_false]; rfl) e
  · exact cmp _ (by simp) (by simp) (by simp) (by simp) (by simp) (by simp) (by simp) (by simp) (by simp) rfl e
  · refine cmp _ (by simp) (by simp) (by simp) (by simp) (by simp) (by simp) (by simp) (by simp) (by simp) rfl e
  · exact cmp _ (by simp) (by simp) (by simp) (by simp) (by simp) (by simp) (by simp) (by simp) (by simp) rfl e
  · exact cmp _ (by simp) (by simp) (by simp) (by simp) (by simp) (by simp) (by simp) (by simp) (by simp) rfl e
  · exact cmp _ (by simp) (by simp) (by simp) (by simp) (by simp) (by simp) (by simp) (by simp) (by simp) rfl e
  · exact cmp _ (by simp) (by simp) (by simp) (by simp) (by simp) (by simp) (by simp) (by simp) (by simp) rfl e
  · cases e

theorem symStr_ok {ρ : Operand → Value} {o : Oper} {op : BinOp} {t : TypeId} {x y : Operand} {c : TypeId} {m n : ByteArray} {h : Hp} {alts : List Alt} (ho : o.op = .binOp op t x y c)
    (hx : den (ρ x) = .string m) (hy : den (ρ y) = .string n) (e : symStr std h op m n = some alts) : AltsOk alts fun a => a.h = h ∧ SemT P ρ o a.v := by
  have mkT : ∀ {v raw : Value}, strOp op m n = some raw → Marks v raw → SemT P ρ o v := by
    intro v raw h1 h3
    refine semT_of (raw := raw) ?_ h3
    unfold stepT
    rw [ho]
    simp only [hx, hy, binA]
    exact h1
  have cmp : ∀ (b : Bool), strOp op m n = some (.bool b) → two h b = some alts → AltsOk alts fun a => a.h = h ∧ SemT P ρ o a.v := by
    intro b hv e
    exact alts_two e (fun hb => by subst hb; exact ⟨rfl, mkT hv (.inl rfl)⟩) (fun hb => by subst hb; exact ⟨rfl, mkT hv (.inl rfl)⟩)
  unfold symStr at e
  split at e
  · refine alts_one e fun hob => ⟨rfl, mkT (raw := .string (m ++ n)) ?_ (.inr ⟨rfl, rfl⟩)⟩
    have hob : m.data.toList.length + n.data.toList.length ≤ 9223372036854775807 := hob
    have h1 : m.size = m.data.toList.length := Array.length_toList.symm
    have h2 : n.size = n.data.toList.length := Array.length_toList.symm
    unfold strOp
    simp only
    rw [if_neg]
    rw [h1, h2]
    have : IntKind.i64.max = 9223372036854775807 := by decide
    omega
  all_goals first
    | exact cmp _ rfl e
    | (cases e; done)

theorem bin_flo {op : BinOp} {t : TypeId} {x y : Operand} {m n : Nat} {v : Value} (h : evalSem P (Op.floatCmp op .f64 m n) = some v) (ho : op ≠ .add ∧ op ≠ .sub ∧ op ≠ .mul ∧ op ≠ .quo) (hp : plainV v = true) :
    binA P op t x y (.float .f64 m) (.float .f64 n) = some v := by
  unfold binA
  have h1 : evalSem P (do eqGuard op t x y (.float .f64 m) (.float .f64 n); binOp op t (.float .f64 m) (.float .f64 n)) = some v := by
    unfold eqGuard
    obtain ⟨a, b, c, d⟩ := ho
    cases op <;> first | (exact absurd rfl a) | (exact absurd rfl b) | (exact absurd rfl c) | (exact absurd rfl d) | exact h
  have h2 : filterPlain (some v) = some v := by unfold filterPlain; simp only [hp, if_true]
  simp only [show plainV (.float .f64 m) = true from rfl, show plainV (.float .f64 n) = true from rfl, Bool.and_self, if_true, h1]
  exact h2
theorem bin_com {op : BinOp} {t : TypeId} {x y : Operand} {a b c d : Nat} {v : Value} (h : evalSem P (Op.complexOp op .f64 a b c d) = some v) (hp : plainV v = true) :
    binA P op t x y (.complex .f64 a b) (.complex .f64 c d) = some v := by
  unfold binA
  have g1 : evalSem P (eqGuard op t x y (.complex .f64 a b) (.complex .f64 c d)) = some () := by
    unfold eqGuard
    cases op <;> rfl
  have g2 : binOp op t (.complex .f64 a b) (.complex .f64 c d) = Op.complexOp op .f64 a b c d := by
    unfold binOp
    cases op <;> simp only [ne_eq, not_true_eq_false, if_false]
  have h1 : evalSem P (do eqGuard op t x y (.complex .f64 a b) (.complex .f64 c d); binOp op t (.complex .f64 a b) (.complex .f64 c d)) = some v := by
    rw [evalSem_bind, g1, Option.bind_some, g2]
    exact h
  have h2 : filterPlain (some v) = some v := by unfold filterPlain; simp only [hp, if_true]
  simp only [show plainV (.complex .f64 a b) = true from rfl, show plainV (.complex .f64 c d) = true from rfl, Bool.and_self, if_true, h1]
  exact h2
theorem flo_eql (m n : Nat) : evalSem P (Op.floatCmp .eql .f64 m n) = some (.bool (std.feq m n)) := by
  have : Op.floatCmp .eql .f64 m n = .pure (.bool (std.feq m n)) := by
    unfold Op.floatCmp
    show Sem.pure (Value.bool (FloatKind.f64.format.order m n == some .eq)) = Sem.pure (Value.bool (Ieee.double.order m n == some .eq))
    rw [show FloatKind.f64.format = Ieee.double from rfl]
  rw [this]; rfl
theorem flo_neq (m n : Nat) : evalSem P (Op.floatCmp .neq .f64 m n) = some (.bool (!(std.feq m n))) := by
  have : Op.floatCmp .neq .f64 m n = .pure (.bool (!(std.feq m n))) := by
    unfold Op.floatCmp
    show Sem.pure (Value.bool (FloatKind.f64.format.order m n != some .eq)) = Sem.pure (Value.bool (!(Ieee.double.order m n == some .eq)))
    rw [show FloatKind.f64.format = Ieee.double from rfl]
    rfl
  rw [this]; rfl
theorem flo_geq (m n : Nat) : evalSem P (Op.floatCmp .geq .f64 m n) = some (.bool (std.fge m n)) := by
  have : Op.floatCmp .geq .f64 m n = .pure (.bool (std.fge m n)) := by
    unfold Op.floatCmp
    show Sem.pure (Value.bool (FloatKind.f64.format.order m n == some .gt || FloatKind.f64.format.order m n == some .eq)) = Sem.pure (Value.bool (Ieee.double.order m n == some .gt || Ieee.double.order m n == some .eq))
    rw [show FloatKind.f64.format = Ieee.double from rfl]
  rw [this]; rfl
theorem com_cmp (m n : Nat) : evalSem P (Op.Complex.cmp .eql .f64 m n) = some (std.feq m n) := by
  unfold Op.Complex.cmp
  rw [evalSem_bind, flo_eql]
  rfl
theorem com_eql (a b c d : Nat) : evalSem P (Op.complexOp .eql .f64 a b c d) = some (.bool (std.feq a c && std.feq b d)) := by
  unfold Op.complexOp
  simp only
  rw [evalSem_bind, com_cmp, Option.bind_some]
  cases std.feq a c
  · rfl
  · show evalSem P (Op.Complex.cmp .eql .f64 b d >>= fun r => pure (Value.bool r)) = _
    rw [evalSem_bind, com_cmp]
    rfl
theorem com_neq (a b c d : Nat) : evalSem P (Op.complexOp .neq .f64 a b c d) = some (.bool (!(std.feq a c && std.feq b d))) := by
  unfold Op.complexOp
  simp only
  rw [evalSem_bind, com_cmp, Option.bind_some]
  cases std.feq a c
  · rfl
  · show evalSem P (Op.Complex.cmp .eql .f64 b d >>= fun r => pure (Value.bool (!r))) = _
    rw [evalSem_bind, com_cmp]
    rfl
theorem com_add {a b r : Nat} (h : Ieee.double.add a b = some r) : evalSem P (Op.Complex.arith .add .f64 a b) = some r := by
  unfold Op.Complex.arith Op.floatArith
  simp only
  rw [show FloatKind.f64.format.add a b = some r from h]
  rfl
theorem symFlo_ok {ρ : Operand → Value} {o : Oper} {op : BinOp} {t : TypeId} {x y : Operand} {c : TypeId} {m n : Nat} {h : Hp} {alts : List Alt} (ho : o.op = .binOp op t x y c)
    (hx : den (ρ x) = .float .f64 m) (hy : den (ρ y) = .float .f64 n) (e : symFlo std h op m n = some alts) : AltsOk alts fun a => a.h = h ∧ SemT P ρ o a.v := by
  have cmp : ∀ (b : Bool), op ≠ .add → op ≠ .sub → op ≠ .mul → op ≠ .quo → evalSem P (Op.floatCmp op .f64 m n) = some (.bool b) → two h b = some alts → AltsOk alts fun a => a.h = h ∧ SemT P ρ o a.v := by
    intro b h1 h2 h3 h4 hv e
    have mkT : SemT P ρ o (.bool b) := by
      refine semT_of (raw := .bool b) ?_ (.inl rfl)
      unfold stepT
      rw [ho]
      simp only [hx, hy]
      exact bin_flo hv ⟨h1, h2, h3, h4⟩ rfl
    exact alts_two e (fun hb => by subst hb; exact ⟨rfl, mkT⟩) (fun hb => by subst hb; exact ⟨rfl, mkT⟩)
  unfold symFlo at e
  split at e
  · exact cmp (std.feq m n) (by simp) (by simp) (by simp) (by simp) (flo_eql m n) e
  · exact cmp (!(std.feq m n)) (by simp) (by simp) (by simp) (by simp) (flo_neq m n) e
  · exact cmp (std.fge m n) (by simp) (by simp) (by simp) (by simp) (flo_geq m n) e
  · cases e
theorem symCom_ok {ρ : Operand → Value} {o : Oper} {op : BinOp} {t : TypeId} {x y : Operand} {c : TypeId} {a b a' b' : Nat} {h : Hp} {alts : List Alt} (ho : o.op = .binOp op t x y c)
    (hx : den (ρ x) = .complex .f64 a b) (hy : den (ρ y) = .complex .f64 a' b') (e : symCom std h op a b a' b' = some alts) : AltsOk alts fun a => a.h = h ∧ SemT P ρ o a.v := by
  have mkT : ∀ {v raw : Value}, evalSem P (Op.complexOp op .f64 a b a' b') = some raw → plainV raw = true → Marks v raw → SemT P ρ o v := by
    intro v raw h1 h2 h3
    refine semT_of (raw := raw) ?_ h3
    unfold stepT
    rw [ho]
    simp only [hx, hy]
    exact bin_com h1 h2
  have cmp : ∀ (r : Bool), evalSem P (Op.complexOp op .f64 a b a' b') = some (.bool r) → two h r = some alts → AltsOk alts fun a => a.h = h ∧ SemT P ρ o a.v := by
    intro r hv e
    exact alts_two e (fun hb => by subst hb; exact ⟨rfl, mkT hv rfl (.inl rfl)⟩) (fun hb => by subst hb; exact ⟨rfl, mkT hv rfl (.inl rfl)⟩)
  unfold symCom at e
  split at e
  · exact cmp (std.feq a a' && std.feq b b') (com_eql a b a' b') e
  · exact cmp (!(std.feq a a' && std.feq b b')) (com_neq a b a' b') e
  · refine alts_one e fun hob => ⟨rfl, mkT (raw := .complex .f64 (std.fadd a a') (std.fadd b b')) ?_ rfl (.inr ⟨rfl, rfl⟩)⟩
    obtain ⟨h1, h2⟩ := hob
    obtain ⟨r1, e1⟩ := Option.isSome_iff_exists.1 h1
    obtain ⟨r2, e2⟩ := Option.isSome_iff_exists.1 h2
    have f1 : std.fadd a a' = r1 := by show (Ieee.double.add a a').getD 0 = r1; rw [e1]; rfl
    have f2 : std.fadd b b' = r2 := by show (Ieee.double.add b b').getD 0 = r2; rw [e2]; rfl
    have g1 := com_add (P := P) e1
    have g2 := com_add (P := P) e2
    rw [f1, f2]
    unfold Op.complexOp
    simp only
    rw [evalSem_bind, g1, Option.bind_some, evalSem_bind, g2]
    rfl
  · cases e

theorem symBin_ok {ρ : Operand → Value} {o : Oper} {op : BinOp} {t : TypeId} {x y : Operand} {c : TypeId} {h : Hp} {alts : List Alt} (ho : o.op = .binOp op t x y c)
    (e : symBin std h op (den (ρ x)) (den (ρ y)) = some alts) : AltsOk alts fun a => a.h = h ∧ SemT P ρ o a.v := by
  unfold symBin at e
  split at e
  · rename_i k m k' n hx hy
    have sh : ∀ {r : Int}, evalSem P (binOp op t (.int k m) (.int k' n)) = some (.int k r) → SemT P ρ o (mk (.int k r)) := by
      intro r h1
      refine semT_of (raw := .int k r) ?_ (.inr ⟨rfl, rfl⟩)
      unfold stepT
      rw [ho]
      simp only [hx, hy]
      exact bin_int h1 rfl
    split at e
    · refine alts_one e fun hob => ⟨rfl, sh ?_⟩
      have hob : 0 ≤ n := hob
      simp only [binOp, Op.shift, if_neg (show ¬ n < 0 by omega)]; rfl
    · refine alts_one e fun hob => ⟨rfl, sh ?_⟩
      have hob : 0 ≤ n := hob
      simp only [binOp, Op.shift, if_neg (show ¬ n < 0 by omega)]; rfl
    · rename_i h1 h2
      split at e
      · rename_i hk
        subst hk
        exact symInt_ok ho hx hy ⟨fun e => h1 e, fun e => h2 e⟩ e
      · cases e
  · rename_i m n hx hy
    exact symStr_ok ho hx hy e
  · rename_i m n hx hy
    exact symFlo_ok ho hx hy e
  · rename_i a b a' b' hx hy
    exact symCom_ok ho hx hy e
  · cases e

theorem bound_ok {ρ : Operand → Value} {x : Option Operand} {dflt most y : Nat} {ob : Prop} (e : symBound std (x.map ρ) dflt most = some (ob, y)) (hob : ob) : boundA (x.map fun x => den (ρ x)) dflt most = some y := by
  unfold symBound at e
  split at e
  · rename_i hx
    cases x with
    | some x => simp at hx
    | none => simp only [Option.some.injEq, Prod.mk.injEq] at e; rw [← e.2]; rfl
  · rename_i v hx
    cases x with
    | none => simp at hx
    | some x =>
      simp at hx; subst hx
      split at e
      · rename_i k n hd
        simp only [Option.some.injEq, Prod.mk.injEq] at e
        obtain ⟨rfl, rfl⟩ := e
        have h1 : 0 ≤ n ∧ n ≤ (most : Int) := hob
        simp only [Option.map_some, hd, boundA]
        rw [if_pos h1]; rfl
      · cases e

theorem isStrT_eq {t : TypeId} (h : isStrT P t = true) : P.underlying t = some .string := by
  unfold isStrT at h
  split at h
  · assumption
  · cases h
theorem part_string {t : TypeId} (h : P.underlying t = some .string) {cs : Array Value} {i : Nat} {v : Value} (hv : cs[i]? = some v) (w : World) : (part t cs i).run P w = .ok v w := by
  unfold part
  simp only [Sem.run_bind, isAgg_run h, Result.andThen_ok]
  rw [show isAggD .string = false from rfl]
  simp only [Bool.false_eq_true, if_false, hv, Sem.run_pure]
theorem pair_equal {t : TypeId} (ht : pairTy P t = true) (p q r s : ByteArray) (w : World) : (Op.equalIn 10000 t (.agg #[.string p, .string q]) (.agg #[.string r, .string s])).run P w = .ok (std.seq p r && std.seq q s) w := by
  unfold pairTy at ht
  split at ht
  case h_2 => cases ht
  rename_i fs hu
  split at ht
  case h_2 => cases ht
  rename_i f g hfs
  simp only [Bool.and_eq_true, Bool.not_eq_true', bne_iff_ne, ne_eq, beq_iff_eq] at ht
  obtain ⟨⟨⟨⟨⟨⟨⟨h1, h2⟩, h3⟩, h4⟩, h5⟩, h6⟩, h7⟩, h8⟩ := ht
  have hf : P.fieldsOf t = fs := by unfold Program.fieldsOf; rw [hu]
  rw [show (10000 : Nat) = 9999 + 1 from rfl, run_equalIn_struct w 9999 t _ _ (by rw [hf]; exact hu) h7, hf, hfs]
  have eqs : ∀ a b : ByteArray, (a.toList == b.toList) = std.seq a b := by
    intro a b
    show _ = (a.data.toList == b.data.toList)
    rw [ByteArray.toList_eq, ByteArray.toList_eq]
  have e1 := isStrT_eq h5
  have e2 := isStrT_eq h6
  unfold Op.eqFields
  rw [if_pos h1]
  simp only [Sem.run_bind, h3, part_string e1 (cs := #[.string p, .string q]) (i := 0) (v := .string p) rfl, part_string e1 (cs := #[.string r, .string s]) (i := 0) (v := .string r) rfl, Result.andThen_ok]
  rw [run_equalIn_string w 9998 f.type p r e1, eqs]
  simp only [Result.andThen_ok]
  cases std.seq p r
  · rfl
  · unfold Op.eqFields
    rw [if_pos h2]
    simp only [Bool.not_true, Bool.false_eq_true, if_false, Sem.run_bind, h4, part_string e2 (cs := #[.string p, .string q]) (i := 1) (v := .string q) rfl, part_string e2 (cs := #[.string r, .string s]) (i := 1) (v := .string s) rfl, Result.andThen_ok]
    rw [run_equalIn_string w 9998 g.type q s e2, eqs]
    simp only [Result.andThen_ok]
    cases std.seq q s <;> rfl
theorem vr_pair {xs : Array Value} {u1 u2 v : Value} {p q : ByteArray} (h : VR μ (.agg xs) v) (hx : xs.toList = [u1, u2]) (h1 : den u1 = .string p) (h2 : den u2 = .string q) : v = .agg #[.string p, .string q] := by
  obtain ⟨ys, rfl, hys⟩ := h.inv_agg
  rw [hx] at hys
  obtain ⟨y1, m1, g1, q1, hys⟩ := hys.inv_cons
  obtain ⟨y2, m2, g2, q2, hys⟩ := hys.inv_cons
  have g3 := hys.inv_nil
  have r1 := (VR.a (VRa.one q1)).den
  have r2 := (VR.a (VRa.one q2)).den
  rw [h1] at r1; rw [h2] at r2
  rw [vr_plain_eq r1 rfl] at g1
  rw [vr_plain_eq r2 rfl] at g2
  subst g3; subst g2
  exact congrArg Value.agg (Array.toList_inj.1 g1)
theorem symAgg_ok {ρ : Operand → Value} {o : Oper} {op : BinOp} {t : TypeId} {x y : Operand} {c : TypeId} {h : Hp} {alts : List Alt} (ho : o.op = .binOp op t x y c)
    (e : symAgg std P h op t (ρ x) (ρ y) = some alts) : AltsOk alts fun a => a.h = h ∧ SemT P ρ o a.v := by
  unfold symAgg at e
  split at e
  case h_2 => cases e
  rename_i xs ys hx hy
  split at e
  case h_2 => cases e
  rename_i u1 u2 w1 w2 hxs hys
  split at e
  case h_2 => cases e
  rename_i p q r s d1 d2 d3 d4
  split at e
  case isFalse => cases e
  rename_i ht
  have hg : P.eqGuardType P.depth t = false := by
    unfold pairTy at ht
    split at ht
    case h_2 => cases ht
    split at ht
    case h_2 => cases ht
    simp only [Bool.and_eq_true, Bool.not_eq_true'] at ht
    exact ht.2
  have key : ∀ (b : Bool), (∀ w : World, (binOp op t (.agg #[.string p, .string q]) (.agg #[.string r, .string s])).run P w = .ok (.bool b) w) → SemT P ρ o (.bool b) := by
    intro b hb μ ρ' w hr
    have r1 := hr x (by rw [ho]; simp [Op.operands])
    have r2 := hr y (by rw [ho]; simp [Op.operands])
    rw [hx] at r1; rw [hy] at r2
    have e1 := vr_pair r1 hxs d1 d2
    have e2 := vr_pair r2 hys d3 d4
    refine ⟨.bool b, ?_, .plain1 rfl⟩
    obtain ⟨dst, op', ty, pos, after, guard⟩ := o
    simp only at ho
    subst ho
    simp only [execOp, e1, e2, Sem.run_bind, run_eqGuard_agg w op t x y _ _ hg, Result.andThen_ok, hb w]
    rfl
  have heq : ∀ w : World, (binOp .eql t (.agg #[.string p, .string q]) (.agg #[.string r, .string s])).run P w = .ok (.bool (std.seq p r && std.seq q s)) w := fun w => by
    rw [run_eql_struct, pair_equal ht]; rfl
  have hne : ∀ w : World, (binOp .neq t (.agg #[.string p, .string q]) (.agg #[.string r, .string s])).run P w = .ok (.bool (!(std.seq p r && std.seq q s))) w := fun w => by
    rw [run_neq_struct, pair_equal ht]; rfl
  split at e
  · have k : SemT P ρ o (.bool (std.seq p r && std.seq q s)) := @key _ heq
    exact alts_two e (fun hb => by rw [hb] at k; exact ⟨rfl, @k⟩) (fun hb => by rw [hb] at k; exact ⟨rfl, @k⟩)
  · have k : SemT P ρ o (.bool (!(std.seq p r && std.seq q s))) := @key _ hne
    exact alts_two e (fun hb => by rw [hb] at k; exact ⟨rfl, @k⟩) (fun hb => by rw [hb] at k; exact ⟨rfl, @k⟩)
  · cases e

theorem numsOf_len {k : IntKind} : ∀ {vs : List Value} {l : List Int}, numsOf k vs = some l → vs.length = l.length
  | [], l, h => by simp only [numsOf, Option.some.injEq] at h; subst h; rfl
  | v :: vs, l, h => by
    unfold numsOf at h
    split at h
    case h_2 => cases h
    split at h
    case isFalse => cases h
    split at h
    case h_2 => cases h
    rename_i m hm
    simp only [Option.some.injEq] at h; subst h
    rw [List.length_cons, List.length_cons, numsOf_len hm]
theorem numsOf_vr {k : IntKind} : ∀ {vs : List Value} {l : List Int} {ws : List Value}, numsOf k vs = some l → All2 (VR1 μ) vs ws → ws = l.map (Value.int k)
  | [], l, ws, h, hv => by simp only [numsOf, Option.some.injEq] at h; subst h; exact hv.inv_nil
  | v :: vs, l, ws, h, hv => by
    unfold numsOf at h
    split at h
    case h_2 => cases h
    rename_i k' n hd
    split at h
    case isFalse => cases h
    rename_i hk
    subst hk
    split at h
    case h_2 => cases h
    rename_i m hm
    simp only [Option.some.injEq] at h; subst h
    obtain ⟨w, ws', rfl, r, hv⟩ := hv.inv_cons
    have r1 := (VR.a (VRa.one r)).den
    rw [hd] at r1
    rw [List.map_cons, vr_plain_eq r1 rfl, numsOf_vr hm hv]
theorem eqItems_ints {d : Nat} {e : TypeId} {k : IntKind} (he : P.underlying e = some (.int k)) (l m : List Int) (w : World) : ∀ (is : List Nat), (∀ i ∈ is, i < l.length ∧ i < m.length) →
    (Op.eqItems (d + 1) e 1 (l.map (Value.int k)).toArray (m.map (Value.int k)).toArray is).run P w = .ok (is.all fun i => l.getD i 0 == m.getD i 0) w
  | [], _ => rfl
  | i :: is, h => by
    obtain ⟨h1, h2⟩ := h i List.mem_cons_self
    have pt : ∀ {q : List Int}, i < q.length → (part e (q.map (Value.int k)).toArray (i * 1)).run P w = .ok (.int k (q.getD i 0)) w := by
      intro q hq
      unfold part
      simp only [Sem.run_bind, isAgg_run he, Result.andThen_ok]
      rw [show isAggD (.int k) = false from rfl, Nat.mul_one]
      have : (q.map (Value.int k)).toArray[i]? = some (.int k (q.getD i 0)) := by
        rw [List.getElem?_toArray, List.getElem?_map, List.getD_eq_getElem?_getD, List.getElem?_eq_getElem hq]; rfl
      simp only [Bool.false_eq_true, if_false, this, Sem.run_pure]
    unfold Op.eqItems
    simp only [Sem.run_bind, pt h1, pt h2, Result.andThen_ok, run_equalIn_int w d e k k _ _ he]
    rw [List.all_cons]
    cases hb : (l.getD i 0 == m.getD i 0)
    · rfl
    · simp only [Bool.not_true, Bool.false_eq_true, if_false, Bool.true_and]
      exact eqItems_ints he l m w is fun j hj => h j (List.mem_cons_of_mem _ hj)
theorem all_leq {l m : List Int} {n : Nat} (hl : l.length = n) (hm : m.length = n) : ((List.range n).all fun i => l.getD i 0 == m.getD i 0) = std.leq l m := by
  show _ = (l == m)
  rw [Bool.eq_iff_iff, List.all_eq_true, beq_iff_eq]
  constructor
  · intro h
    refine List.ext_getElem (by omega) fun i h1 h2 => ?_
    have := beq_iff_eq.1 (h i (List.mem_range.2 (by omega)))
    rw [List.getD_eq_getElem?_getD, List.getD_eq_getElem?_getD, List.getElem?_eq_getElem h1, List.getElem?_eq_getElem h2] at this
    exact this
  · rintro rfl i _
    exact beq_self_eq_true _
theorem symArr_ok {ρ : Operand → Value} {o : Oper} {op : BinOp} {t : TypeId} {x y : Operand} {c : TypeId} {h : Hp} {alts : List Alt} (ho : o.op = .binOp op t x y c)
    (e : symArr std P h op t (ρ x) (ρ y) = some alts) : AltsOk alts fun a => a.h = h ∧ SemT P ρ o a.v := by
  unfold symArr at e
  split at e
  case h_2 => cases e
  rename_i n el hu
  split at e
  case h_2 => cases e
  rename_i k xs ys he hsz hx hy
  split at e
  case h_2 => cases e
  rename_i l m hl hm
  split at e
  case isFalse => cases e
  rename_i hc
  obtain ⟨hln, hmn, hg⟩ := hc
  have hi : ∃ i, P.info? el = some i ∧ i.size = 1 := by
    unfold szA at hsz
    cases hi : P.info? el with
    | none => simp [hi] at hsz
    | some i => simp [hi] at hsz; exact ⟨i, rfl, hsz⟩
  obtain ⟨i, hi, hi1⟩ := hi
  have hcell : P.cellsOf el = 1 := by unfold Program.cellsOf; rw [hi]; exact hi1
  have hall : ∀ i ∈ List.range n, i < l.length ∧ i < m.length := fun i h => by have := List.mem_range.1 h; omega
  have key : ∀ (b : Bool), (∀ w : World, (binOp op t (.agg (l.map (Value.int k)).toArray) (.agg (m.map (Value.int k)).toArray)).run P w = .ok (.bool b) w) → SemT P ρ o (.bool b) := by
    intro b hb μ ρ' w hr
    have r1 := hr x (by rw [ho]; simp [Op.operands])
    have r2 := hr y (by rw [ho]; simp [Op.operands])
    rw [hx] at r1; rw [hy] at r2
    obtain ⟨xs', e1, hx'⟩ := r1.inv_agg
    obtain ⟨ys', e2, hy'⟩ := r2.inv_agg
    have e3 : xs' = (l.map (Value.int k)).toArray := Array.toList_inj.1 (numsOf_vr hl hx')
    have e4 : ys' = (m.map (Value.int k)).toArray := Array.toList_inj.1 (numsOf_vr hm hy')
    subst e3; subst e4
    refine ⟨.bool b, ?_, .plain1 rfl⟩
    obtain ⟨dst, op', ty, pos, after, guard⟩ := o
    simp only at ho
    subst ho
    simp only [execOp, e1, e2, Sem.run_bind, run_eqGuard_agg w op t x y _ _ hg, Result.andThen_ok, hb w]
    rfl
  have heq : ∀ w : World, (Op.equalIn 10000 t (.agg (l.map (Value.int k)).toArray) (.agg (m.map (Value.int k)).toArray)).run P w = .ok (std.leq l m) w := fun w => by
    rw [show (10000 : Nat) = 9999 + 1 from rfl, run_equalIn_array w 9999 _ _ hu hi, hcell, show (9999 : Nat) = 9998 + 1 from rfl, eqItems_ints he l m w _ hall, all_leq hln hmn]
  split at e
  · have kk : SemT P ρ o (.bool (std.leq l m)) := @key _ fun w => by rw [run_eql_struct, heq]; rfl
    exact alts_two e (fun hb => by rw [hb] at kk; exact ⟨rfl, @kk⟩) (fun hb => by rw [hb] at kk; exact ⟨rfl, @kk⟩)
  · have kk : SemT P ρ o (.bool (!(std.leq l m))) := @key _ fun w => by rw [run_neq_struct, heq]; rfl
    exact alts_two e (fun hb => by rw [hb] at kk; exact ⟨rfl, @kk⟩) (fun hb => by rw [hb] at kk; exact ⟨rfl, @kk⟩)
  · cases e

theorem isUnk_unk (n : Nat) : isUnk (unk n) = true := by unfold isUnk unk; simp

theorem symSlice_ok {ρ : Operand → Value} {o : Oper} {t : TypeId} {x : Operand} {lo hi : Option Operand} {h : Hp} {alts : List Alt} (ho : o.op = .slice t x lo hi none)
    (e : symSlice std P h t (ρ x) (lo.map ρ) (hi.map ρ) = some alts) : AltsOk alts fun a => a.h = h ∧ SemT P ρ o a.v := by
  have mkT : ∀ {v raw : Value}, sliceA P t (den (ρ x)) (lo.map fun x => den (ρ x)) (hi.map fun x => den (ρ x)) none = some raw → Marks v raw → SemT P ρ o v := by
    intro v raw h1 h3
    refine semT_of (raw := raw) ?_ h3
    unfold stepT
    rw [ho]
    exact h1
  unfold symSlice at e
  split at e
  · rename_i s hu hx
    split at e
    · rename_i o1 b hb
      split at e
      · rename_i o2 a ha
        refine alts_one e fun hob => ⟨rfl, mkT (raw := .string (std.ssub s a b)) ?_ (.inr ⟨rfl, rfl⟩)⟩
        unfold sliceA
        rw [hu, hx]
        simp only
        have e1 : boundA (hi.map fun x => den (ρ x)) s.data.toList.length s.data.toList.length = some b := bound_ok hb hob.1
        rw [e1]
        simp only
        rw [bound_ok ha hob.2]
        rfl
      · cases e
    · cases e
  · rename_i elem b o len cap hu hx
    split at e
    · rename_i sz hsz
      split at e
      · rename_i hcap
        subst hcap
        split at e
        · rename_i o1 y hy
          split at e
          · rename_i o2 z hz
            refine alts_one e fun hob => ⟨rfl, mkT (raw := .slice (some ⟨b, std.nadd o (std.nmul z sz), none⟩) (std.nsub y z) (unk sz)) ?_ (.inr ⟨rfl, rfl⟩)⟩
            unfold sliceA
            rw [hu, hx]
            simp only [hsz, sliceRow, isUnk_unk, if_true]
            rw [bound_ok hy hob.1]
            simp only
            rw [bound_ok hz hob.2]
            simp only
            rfl
          · cases e
        · cases e
      · split at e
        · cases e
        · rename_i hlo
          split at e
          · cases e
          · rename_i hun
            split at e
            · rename_i o1 y hy
              have hl : lo = none := by
                cases lo with
                | none => rfl
                | some _ => simp at hlo
              subst hl
              refine alts_one e fun hob => ⟨rfl, mkT (raw := .slice (some ⟨b, o, none⟩) y cap) ?_ (.inr ⟨rfl, rfl⟩)⟩
              unfold sliceA
              rw [hu, hx]
              simp only [hsz, sliceRow, hun, if_false, Bool.false_eq_true]
              rw [bound_ok hy hob]
              simp [boundA]
            · cases e
    · cases e
  · cases e

theorem symIdx_ok {ρ : Operand → Value} {o : Oper} {t : TypeId} {x i : Operand} {h : Hp} {alts : List Alt} (ho : o.op = .indexAddr t x i)
    (e : symIdx std P h t (ρ x) (ρ i) = some alts) : AltsOk alts fun a => a.h = h ∧ SemT P ρ o a.v := by
  have mkT : ∀ {v raw : Value}, indexAddrA P t (den (ρ x)) (den (ρ i)) = some raw → Marks v raw → SemT P ρ o v := by
    intro v raw h1 h3
    refine semT_of (raw := raw) ?_ h3
    unfold stepT
    rw [ho]
    exact h1
  unfold symIdx at e
  split at e
  · rename_i k n hi
    split at e
    all_goals try (cases e; done)
    all_goals split at e
    all_goals try (cases e; done)
    · rename_i hu hx _ sz hsz
      refine alts_one e fun hob => ⟨rfl, mkT ?_ (.inr ⟨rfl, rfl⟩)⟩
      unfold indexAddrA
      rw [hi, hu, hx]
      simp only [hsz]
      exact if_pos hob
    · rename_i hu hx _ sz hsz
      refine alts_one e fun hob => ⟨rfl, mkT ?_ (.inr ⟨rfl, rfl⟩)⟩
      unfold indexAddrA
      rw [hi, hu, hx]
      simp only [hsz]
      exact if_pos hob
  · cases e

theorem symT_ok {ρ : Operand → Value} {o : Oper} {h : Hp} {alts : List Alt} (e : symT std P ρ o h = some alts) : kindOf P o.op = .T ∧ AltsOk alts fun a => a.h = h ∧ SemT P ρ o a.v := by
  unfold symT at e
  have mkT : ∀ {v raw : Value}, stepT P (fun x => den (ρ x)) o = some raw → Marks v raw → SemT P ρ o v := fun h1 h3 => semT_of h1 h3
  split at e
  · rename_i op t x y rt ho
    refine ⟨by rw [ho]; rfl, ?_⟩
    split at e
    · rename_i a ha
      simp only [Option.some.injEq] at e; subst e
      exact symBin_ok ho ha
    split at e
    · rename_i a ha
      simp only [Option.some.injEq] at e; subst e
      exact symAgg_ok ho ha
    split at e
    · rename_i a ha
      simp only [Option.some.injEq] at e; subst e
      exact symArr_ok ho ha
    · have fin : ∀ {v : Value}, binA P op t x y (den (ρ x)) (den (ρ y)) = some v → SemT P ρ o v := fun hb => mkT (by unfold stepT; rw [ho]; exact hb) (.inl rfl)
      split at e
      · split at e
        · rename_i v hv
          exact alts_pure e ⟨rfl, fin hv⟩
        · cases e
      · split at e
        · rename_i v hv
          exact alts_pure e ⟨rfl, fin hv⟩
        · cases e
      · cases e
  · rename_i op ty x ho
    refine ⟨by rw [ho]; rfl, ?_⟩
    split at e
    · rename_i n hx
      refine alts_one e fun hob => ⟨rfl, mkT (raw := .int .i64 (std.neg n)) ?_ (.inr ⟨rfl, rfl⟩)⟩
      have hob : -9223372036854775808 ≤ -n ∧ -n ≤ 9223372036854775807 := hob
      unfold stepT
      rw [ho]
      simp only [hx, plainV, plain1, if_true]
      show filterPlain (some (Value.int IntKind.i64 (IntKind.i64.wrap (0 - n)))) = _
      rw [show (0 - n : Int) = -n by omega, wrap_i64 hob]; rfl
    · rename_i k n hx
      refine alts_pure e ⟨rfl, mkT (raw := .int k (std.bxor k (if k.signed then -1 else k.max) n)) ?_ (.inr ⟨rfl, rfl⟩)⟩
      unfold stepT
      rw [ho]
      simp only [hx, plainV, plain1, if_true]
      rfl
    · cases e
  · rename_i src dst x ho
    split at e
    · rename_i k0 k' k n hs hd hx
      refine ⟨by rw [ho]; simp only [kindOf, hs, hd], alts_pure e ⟨rfl, mkT (raw := .int k' (std.wrap k' n)) ?_ (.inr ⟨rfl, rfl⟩)⟩⟩
      unfold stepT
      rw [ho]
      simp only [hx, plainV, plain1, if_true]
      have : evalSem P (convert src dst (.int k n)) = some (.int k' (k'.wrap n)) := by
        unfold convert
        rw [evalSem_bind, evalSem_underlying hs, Option.bind_some, evalSem_bind, evalSem_underlying hd]
        rfl
      rw [this]; rfl
    · rename_i s hs hd hx
      refine ⟨by rw [ho]; simp only [kindOf, hs, hd], alts_pure e ⟨rfl, mkT (raw := .string s) ?_ (.inr ⟨rfl, rfl⟩)⟩⟩
      unfold stepT
      rw [ho]
      simp only [hx, plainV, plain1, if_true]
      have : evalSem P (convert src dst (.string s)) = some (.string s) := by
        unfold convert
        rw [evalSem_bind, evalSem_underlying hs, Option.bind_some, evalSem_bind, evalSem_underlying hd]
        rfl
      rw [this]; rfl
    · rename_i k0 k n hs hd hx
      refine ⟨by rw [ho]; simp only [kindOf, hs, hd], alts_pure e ⟨rfl, mkT (raw := .float .f64 (std.fof n)) ?_ (.inr ⟨rfl, rfl⟩)⟩⟩
      unfold stepT
      rw [ho]
      simp only [hx, plainV, plain1, if_true]
      have : evalSem P (convert src dst (.int k n)) = some (.float .f64 (FloatKind.f64.nearest n)) := by
        unfold convert
        rw [evalSem_bind, evalSem_underlying hs, Option.bind_some, evalSem_bind, evalSem_underlying hd]
        rfl
      rw [this]; rfl
    · rename_i k0 b hs hd hx
      refine ⟨by rw [ho]; simp only [kindOf, hs, hd], alts_one e fun hob => ⟨rfl, mkT (raw := .int .i64 (std.fint b)) ?_ (.inr ⟨rfl, rfl⟩)⟩⟩
      obtain ⟨h1, h2, h3⟩ := hob
      unfold stepT
      rw [ho]
      simp only [hx, plainV, plain1, if_true]
      have : evalSem P (convert src dst (.float .f64 b)) = some (.int .i64 (((Ieee.double.read b).toInt .zero).getD 0)) := by
        unfold convert
        rw [evalSem_bind, evalSem_underlying hs, Option.bind_some, evalSem_bind, evalSem_underlying hd]
        show evalSem P (Conv.floatToInt .f64 b .i64) = _
        unfold Conv.floatToInt
        have h1' : (FloatKind.f64.decode b).toInt .zero = some (((Ieee.double.read b).toInt .zero).getD 0) := h1
        simp only [h1']
        rw [if_pos ⟨h2, h3⟩]
        rfl
      rw [this]; rfl
    · cases e
  · rename_i ho
    exact ⟨by rw [ho]; rfl, symSlice_ok ho e⟩
  · rename_i ho
    exact ⟨by rw [ho]; rfl, symIdx_ok ho e⟩
  · rename_i t x i ho
    refine ⟨by rw [ho]; rfl, ?_⟩
    split at e
    · rename_i s k n hu hx hi
      refine alts_one e fun hob => ⟨rfl, mkT (raw := .int .u8 (std.sget s (std.nat n))) ?_ (.inr ⟨rfl, rfl⟩)⟩
      have hob : 0 ≤ n ∧ n < ((s.data.toList.length : Nat) : Int) := hob
      unfold stepT
      rw [ho]
      simp only [hx, hi, indexA, hu]
      rw [if_pos hob.1, List.getElem?_eq_getElem (show n.toNat < s.data.toList.length by omega)]
      show some (Value.int .u8 _) = some (Value.int .u8 ((s.data.toList.getD n.toNat 0).toNat : Int))
      rw [List.getD_eq_getElem?_getD, List.getElem?_eq_getElem (show n.toNat < s.data.toList.length by omega)]
      rfl
    · cases e
  · rename_i s x f ho
    refine ⟨by rw [ho]; rfl, ?_⟩
    split at e
    · rename_i b o' fs hx hu
      split at e
      · rename_i fd hfd
        split at e
        · rename_i m hm
          refine alts_pure e ⟨rfl, mkT (raw := .pointer (some ⟨b, std.nadd o' fd.offset, none⟩)) ?_ (.inr ⟨rfl, rfl⟩)⟩
          unfold stepT
          rw [ho]
          simp only [hx, fieldAddrA, hu, hfd, hm]
          rfl
        · cases e
      · cases e
    · cases e
  · rename_i x ho
    refine ⟨by rw [ho]; rfl, ?_⟩
    split at e
    · rename_i a hx
      refine alts_pure e ⟨rfl, mkT (raw := .pointer (some a)) ?_ (.inr ⟨rfl, rfl⟩)⟩
      unfold stepT
      rw [ho]
      simp only [hx]
    · cases e
  · rename_i args argTypes ho
    split at e
    · rename_i t ht
      split at e
      · rename_i s hu hl
        refine ⟨by rw [ho]; simp only [kindOf, ht, Option.bind_some, hu], alts_pure e ⟨rfl, mkT (raw := goInt (std.slen s)) ?_ (.inr ⟨rfl, rfl⟩)⟩⟩
        unfold stepT
        rw [ho]
        simp only [builtinT, ht, hu, hl]
        rfl
      · rename_i el a n k hu hl
        refine ⟨by rw [ho]; simp only [kindOf, ht, Option.bind_some, hu], alts_pure e ⟨rfl, mkT (raw := .int .i64 (std.int n)) ?_ (.inr ⟨rfl, rfl⟩)⟩⟩
        unfold stepT
        rw [ho]
        simp only [builtinT, ht, hu, hl]
        rfl
      · cases e
    · cases e
  · rename_i args argTypes ho
    refine ⟨by rw [ho]; rfl, ?_⟩
    split at e
    · rename_i k m k' n hl
      split at e
      · rename_i hk
        refine alts_pure e ⟨rfl, mkT (raw := .int k (std.imin m n)) ?_ (.inr ⟨rfl, rfl⟩)⟩
        unfold stepT
        rw [ho]
        simp only [builtinT, hl]
        rfl
      · cases e
    · cases e
  · rename_i args argTypes ho
    refine ⟨by rw [ho]; rfl, ?_⟩
    split at e
    · rename_i k m k' n hl
      split at e
      · rename_i hk
        refine alts_pure e ⟨rfl, mkT (raw := .int k (std.imax m n)) ?_ (.inr ⟨rfl, rfl⟩)⟩
        unfold stepT
        rw [ho]
        simp only [builtinT, hl]
        rfl
      · cases e
    · cases e
  · rename_i args argTypes ho
    refine ⟨by rw [ho]; rfl, ?_⟩
    split at e
    · rename_i m n hl
      refine alts_pure e ⟨rfl, mkT (raw := .complex .f64 m n) ?_ (.inr ⟨rfl, rfl⟩)⟩
      unfold stepT
      rw [ho]
      simp only [builtinT, hl]
      rfl
    · cases e
  · rename_i args argTypes ho
    refine ⟨by rw [ho]; rfl, ?_⟩
    split at e
    · rename_i m n hl
      refine alts_pure e ⟨rfl, mkT (raw := .float .f64 m) ?_ (.inr ⟨rfl, rfl⟩)⟩
      unfold stepT
      rw [ho]
      simp only [builtinT, hl]
      rfl
    · cases e
  · rename_i args argTypes ho
    refine ⟨by rw [ho]; rfl, ?_⟩
    split at e
    · rename_i m n hl
      refine alts_pure e ⟨rfl, mkT (raw := .float .f64 n) ?_ (.inr ⟨rfl, rfl⟩)⟩
      unfold stepT
      rw [ho]
      simp only [builtinT, hl]
      rfl
    · cases e
  · cases e
end
end Go.Abs
