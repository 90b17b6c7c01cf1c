/-
  KvOrder: set in any order, the same row; set twice, the last value; taken out, it is as if it had never been; full is full.
-/
import Derived.Test.YtolkoacllaaceaaOr5
import Derived.Lib.AppendZeros
import Derived.Lib.SlFresh
import Derived.Test.YtolkoacllaaceaaRows
section
namespace Go.Proofs.Ytolkoacllaaceaa
open Go.Abs Go
set_option maxRecDepth 100000 in
theorem pairs_vc (g : KvF) (xs ks : List Value) (I : PaL → Prop) (m : PaL → Nat) (J : PaM → Prop) (q : PaM → Nat) : runP std (pairsCon std g) 60 (pairsLs xs ks I m J q) (pairsP std g) 12 Try.f12 (xs, ()) =
  (∃ (d9 : PaL), (([(Filler.dl xs), (Filler.val (Value.int IntKind.i64 (d9.i))), (Filler.me (d9.es))] = [(Filler.dl xs), (Filler.val (Value.int IntKind.i64 (0 : Int))), (Filler.me [])]) ∧ ((I d9) ∧ (∀ (d10 : PaL), ((I d10) → ((((decide ((d10.i) < ((List.length xs) : Int))) = true) → ((((decide ((d10.i) < (12 : Int))) = true) → ((((0 : Int) ≤ (d10.i)) ∧ ((d10.i) < ((List.length xs) : Int))) ∧ ((((-9223372036854775808 : Int) ≤ (eI xs (Int.toNat (d10.i)))) ∧ ((eI xs (Int.toNat (d10.i))) ≤ (9223372036854775807 : Int))) ∧ ((((0 : Int) ≤ (d10.i)) ∧ ((d10.i) < ((List.length xs) : Int))) ∧ ((((0 : Int) < (12 : Int)) ∧ (((-9223372036854775808 : Int) ≤ (eI xs (Int.toNat (d10.i)))) ∧ ((eI xs (Int.toNat (d10.i))) ≤ (9223372036854775807 : Int)))) ∧ ((((-9223372036854775808 : Int) ≤ (std.quo (eI xs (Int.toNat (d10.i))) (12 : Int))) ∧ ((std.quo (eI xs (Int.toNat (d10.i))) (12 : Int)) ≤ (9223372036854775807 : Int))) ∧ ((((-9223372036854775808 : Int) ≤ ((d10.i) + (1 : Int))) ∧ (((d10.i) + (1 : Int)) ≤ (9223372036854775807 : Int))) ∧ (∃ (d14 : PaL), (([(Filler.dl xs), (Filler.val (Value.int IntKind.i64 (d14.i))), (Filler.me (d14.es))] = [(Filler.dl xs), (Filler.val (Value.int IntKind.i64 ((d10.i) + (1 : Int)))), (Filler.me (std.mput (Value.string (ByteArray.mk (Array.mk []))) (d10.es) (Value.string (g.key (eI xs (Int.toNat (d10.i))))) (Value.string (g.txt (std.quo (eI xs (Int.toNat (d10.i))) (12 : Int))))))]) ∧ ((Nat.le (Nat.succ (m d14)) (m d10)) ∧ (I d14))))))))))) ∧ (((decide ((d10.i) < (12 : Int))) = false) → (∃ (d14 : PaM), (([(Filler.dl (d14.r)), (Filler.dl ks), (Filler.val (Value.int IntKind.i64 (d14.n))), (Filler.val (Value.int IntKind.i64 (d14.i))), (Filler.me (d14.es))] = [(Filler.dl []), (Filler.dl [(Value.string (ByteArray.mk (Array.mk [(97 : UInt8)]))), (Value.string (ByteArray.mk (Array.mk [(97 : UInt8), (98 : UInt8)]))), (Value.string (ByteArray.mk (Array.mk [(97 : UInt8), (98 : UInt8), (99 : UInt8)]))), (Value.string (ByteArray.mk (Array.mk [(98 : UInt8)]))), (Value.string (ByteArray.mk (Array.mk [(98 : UInt8), (97 : UInt8)]))), (Value.string (ByteArray.mk (Array.mk [(115 : UInt8), (47 : UInt8), (97 : UInt8)]))), (Value.string (ByteArray.mk (Array.mk [(115 : UInt8), (47 : UInt8), (98 : UInt8)]))), (Value.string (ByteArray.mk (Array.mk [(115 : UInt8), (47 : UInt8), (99 : UInt8)]))), (Value.string (ByteArray.mk (Array.mk [(116 : UInt8)]))), (Value.string (ByteArray.mk (Array.mk [(117 : UInt8)]))), (Value.string (ByteArray.mk (Array.mk [(122 : UInt8)]))), (Value.string (ByteArray.mk (Array.mk [(122 : UInt8), (122 : UInt8)])))]), (Filler.val (Value.int IntKind.i64 (12 : Int))), (Filler.val (Value.int IntKind.i64 (0 : Int))), (Filler.me (d10.es))]) ∧ ((J d14) ∧ (∀ (d15 : PaM), ((J d15) → ((((decide ((d15.i) < (d15.n))) = true) → ((((0 : Int) ≤ (d15.i)) ∧ ((d15.i) < ((List.length ks) : Int))) ∧ ((((std.mhas (Value.string (ByteArray.mk (Array.mk []))) (d15.es) (Value.string (eS ks (Int.toNat (d15.i))))) = true) → ((((List.length ((d15.r) ++ [(Value.agg (Array.mk [(Value.string (eS ks (Int.toNat (d15.i)))), (Value.string (std.dstr (std.mget (Value.string (ByteArray.mk (Array.mk []))) (Value.string (ByteArray.mk (Array.mk []))) (d15.es) (Value.string (eS ks (Int.toNat (d15.i)))))))]))])) * 32) ≤ 140737488355328) ∧ ((((-9223372036854775808 : Int) ≤ ((d15.i) + (1 : Int))) ∧ (((d15.i) + (1 : Int)) ≤ (9223372036854775807 : Int))) ∧ (∃ (d19 : PaM), (([(Filler.dl (d19.r)), (Filler.dl ks), (Filler.val (Value.int IntKind.i64 (d19.n))), (Filler.val (Value.int IntKind.i64 (d19.i))), (Filler.me (d19.es))] = [(Filler.dl ((d15.r) ++ [(Value.agg (Array.mk [(Value.string (eS ks (Int.toNat (d15.i)))), (Value.string (std.dstr (std.mget (Value.string (ByteArray.mk (Array.mk []))) (Value.string (ByteArray.mk (Array.mk []))) (d15.es) (Value.string (eS ks (Int.toNat (d15.i)))))))]))])), (Filler.dl ks), (Filler.val (Value.int IntKind.i64 (d15.n))), (Filler.val (Value.int IntKind.i64 ((d15.i) + (1 : Int)))), (Filler.me (d15.es))]) ∧ ((Nat.le (Nat.succ (q d19)) (q d15)) ∧ (J d19))))))) ∧ (((std.mhas (Value.string (ByteArray.mk (Array.mk []))) (d15.es) (Value.string (eS ks (Int.toNat (d15.i))))) = false) → ((((-9223372036854775808 : Int) ≤ ((d15.i) + (1 : Int))) ∧ (((d15.i) + (1 : Int)) ≤ (9223372036854775807 : Int))) ∧ (∃ (d19 : PaM), (([(Filler.dl (d19.r)), (Filler.dl ks), (Filler.val (Value.int IntKind.i64 (d19.n))), (Filler.val (Value.int IntKind.i64 (d19.i))), (Filler.me (d19.es))] = [(Filler.dl (d15.r)), (Filler.dl ks), (Filler.val (Value.int IntKind.i64 (d15.n))), (Filler.val (Value.int IntKind.i64 ((d15.i) + (1 : Int)))), (Filler.me (d15.es))]) ∧ ((Nat.le (Nat.succ (q d19)) (q d15)) ∧ (J d19))))))))) ∧ (((decide ((d15.i) < (d15.n))) = false) → ([(dsl zP (d15.r))] = [(dsl zP (g.pairs xs))]))))))))))) ∧ (((decide ((d10.i) < ((List.length xs) : Int))) = false) → (∃ (d13 : PaM), (([(Filler.dl (d13.r)), (Filler.dl ks), (Filler.val (Value.int IntKind.i64 (d13.n))), (Filler.val (Value.int IntKind.i64 (d13.i))), (Filler.me (d13.es))] = [(Filler.dl []), (Filler.dl [(Value.string (ByteArray.mk (Array.mk [(97 : UInt8)]))), (Value.string (ByteArray.mk (Array.mk [(97 : UInt8), (98 : UInt8)]))), (Value.string (ByteArray.mk (Array.mk [(97 : UInt8), (98 : UInt8), (99 : UInt8)]))), (Value.string (ByteArray.mk (Array.mk [(98 : UInt8)]))), (Value.string (ByteArray.mk (Array.mk [(98 : UInt8), (97 : UInt8)]))), (Value.string (ByteArray.mk (Array.mk [(115 : UInt8), (47 : UInt8), (97 : UInt8)]))), (Value.string (ByteArray.mk (Array.mk [(115 : UInt8), (47 : UInt8), (98 : UInt8)]))), (Value.string (ByteArray.mk (Array.mk [(115 : UInt8), (47 : UInt8), (99 : UInt8)]))), (Value.string (ByteArray.mk (Array.mk [(116 : UInt8)]))), (Value.string (ByteArray.mk (Array.mk [(117 : UInt8)]))), (Value.string (ByteArray.mk (Array.mk [(122 : UInt8)]))), (Value.string (ByteArray.mk (Array.mk [(122 : UInt8), (122 : UInt8)])))]), (Filler.val (Value.int IntKind.i64 (12 : Int))), (Filler.val (Value.int IntKind.i64 (0 : Int))), (Filler.me (d10.es))]) ∧ ((J d13) ∧ (∀ (d14 : PaM), ((J d14) → ((((decide ((d14.i) < (d14.n))) = true) → ((((0 : Int) ≤ (d14.i)) ∧ ((d14.i) < ((List.length ks) : Int))) ∧ ((((std.mhas (Value.string (ByteArray.mk (Array.mk []))) (d14.es) (Value.string (eS ks (Int.toNat (d14.i))))) = true) → ((((List.length ((d14.r) ++ [(Value.agg (Array.mk [(Value.string (eS ks (Int.toNat (d14.i)))), (Value.string (std.dstr (std.mget (Value.string (ByteArray.mk (Array.mk []))) (Value.string (ByteArray.mk (Array.mk []))) (d14.es) (Value.string (eS ks (Int.toNat (d14.i)))))))]))])) * 32) ≤ 140737488355328) ∧ ((((-9223372036854775808 : Int) ≤ ((d14.i) + (1 : Int))) ∧ (((d14.i) + (1 : Int)) ≤ (9223372036854775807 : Int))) ∧ (∃ (d18 : PaM), (([(Filler.dl (d18.r)), (Filler.dl ks), (Filler.val (Value.int IntKind.i64 (d18.n))), (Filler.val (Value.int IntKind.i64 (d18.i))), (Filler.me (d18.es))] = [(Filler.dl ((d14.r) ++ [(Value.agg (Array.mk [(Value.string (eS ks (Int.toNat (d14.i)))), (Value.string (std.dstr (std.mget (Value.string (ByteArray.mk (Array.mk []))) (Value.string (ByteArray.mk (Array.mk []))) (d14.es) (Value.string (eS ks (Int.toNat (d14.i)))))))]))])), (Filler.dl ks), (Filler.val (Value.int IntKind.i64 (d14.n))), (Filler.val (Value.int IntKind.i64 ((d14.i) + (1 : Int)))), (Filler.me (d14.es))]) ∧ ((Nat.le (Nat.succ (q d18)) (q d14)) ∧ (J d18))))))) ∧ (((std.mhas (Value.string (ByteArray.mk (Array.mk []))) (d14.es) (Value.string (eS ks (Int.toNat (d14.i))))) = false) → ((((-9223372036854775808 : Int) ≤ ((d14.i) + (1 : Int))) ∧ (((d14.i) + (1 : Int)) ≤ (9223372036854775807 : Int))) ∧ (∃ (d18 : PaM), (([(Filler.dl (d18.r)), (Filler.dl ks), (Filler.val (Value.int IntKind.i64 (d18.n))), (Filler.val (Value.int IntKind.i64 (d18.i))), (Filler.me (d18.es))] = [(Filler.dl (d14.r)), (Filler.dl ks), (Filler.val (Value.int IntKind.i64 (d14.n))), (Filler.val (Value.int IntKind.i64 ((d14.i) + (1 : Int)))), (Filler.me (d14.es))]) ∧ ((Nat.le (Nat.succ (q d18)) (q d14)) ∧ (J d18))))))))) ∧ (((decide ((d14.i) < (d14.n))) = false) → ([(dsl zP (d14.r))] = [(dsl zP (g.pairs xs))]))))))))))))))) := by kernel_rfl
end Go.Proofs.Ytolkoacllaaceaa
end
section
namespace Go.Proofs.Ytolkoacllaaceaa
open Go.RowKit Go.Abs Go
theorem esF_zero (xs : List Value) : esF xs 0 = [] := rfl
theorem esF_next (xs : List Value) (i : Nat) : esF xs (i + 1) = mput zS (esF xs i) (.string (keyF (eI xs i))) (.string (txtF (Int.tdiv (eI xs i) 12))) := rfl
theorem outL_len (es : List (Value × Value)) : ∀ i, (outL es i).length ≤ i
  | 0 => Nat.le_refl _
  | i + 1 => by
    have := outL_len es i
    unfold outL
    split
    · simp; omega
    · omega
def pairI (xs : List Value) (d : PaL) : Prop := ∃ i : Nat, d.i = i ∧ i ≤ xs.length ∧ i ≤ 12 ∧ d.es = esF xs i
def pairJ (xs : List Value) (d : PaM) : Prop := d.n = 12 ∧ d.es = esF xs (min xs.length 12) ∧ ∃ i : Nat, d.i = i ∧ i ≤ 12 ∧ d.r = outL d.es i
theorem keysV_len : keysV.length = 12 := rfl
theorem tdiv_small {n : Int} (h : -9223372036854775808 ≤ n ∧ n ≤ 9223372036854775807) : -9223372036854775808 ≤ Int.tdiv n 12 ∧ Int.tdiv n 12 ≤ 9223372036854775807 := by
  have h1 : (Int.tdiv n 12).natAbs = n.natAbs / 12 := Int.natAbs_tdiv n 12
  omega
theorem pairs2 (xs : List Value) {es : List (Value × Value)} (he : es = esF xs (min xs.length 12)) : (∃ (d14 : PaM), (([(Filler.dl (d14.r)), (Filler.dl keysV), (Filler.val (Value.int IntKind.i64 (d14.n))), (Filler.val (Value.int IntKind.i64 (d14.i))), (Filler.me (d14.es))] = [(Filler.dl []), (Filler.dl [(Value.string (ByteArray.mk (Array.mk [(97 : UInt8)]))), (Value.string (ByteArray.mk (Array.mk [(97 : UInt8), (98 : UInt8)]))), (Value.string (ByteArray.mk (Array.mk [(97 : UInt8), (98 : UInt8), (99 : UInt8)]))), (Value.string (ByteArray.mk (Array.mk [(98 : UInt8)]))), (Value.string (ByteArray.mk (Array.mk [(98 : UInt8), (97 : UInt8)]))), (Value.string (ByteArray.mk (Array.mk [(115 : UInt8), (47 : UInt8), (97 : UInt8)]))), (Value.string (ByteArray.mk (Array.mk [(115 : UInt8), (47 : UInt8), (98 : UInt8)]))), (Value.string (ByteArray.mk (Array.mk [(115 : UInt8), (47 : UInt8), (99 : UInt8)]))), (Value.string (ByteArray.mk (Array.mk [(116 : UInt8)]))), (Value.string (ByteArray.mk (Array.mk [(117 : UInt8)]))), (Value.string (ByteArray.mk (Array.mk [(122 : UInt8)]))), (Value.string (ByteArray.mk (Array.mk [(122 : UInt8), (122 : UInt8)])))]), (Filler.val (Value.int IntKind.i64 (12 : Int))), (Filler.val (Value.int IntKind.i64 (0 : Int))), (Filler.me es)]) ∧ ((pairJ xs d14) ∧ (∀ (d15 : PaM), ((pairJ xs d15) → ((((decide ((d15.i) < (d15.n))) = true) → ((((0 : Int) ≤ (d15.i)) ∧ ((d15.i) < ((List.length keysV) : Int))) ∧ ((((std.mhas (Value.string (ByteArray.mk (Array.mk []))) (d15.es) (Value.string (eS keysV (Int.toNat (d15.i))))) = true) → ((((List.length ((d15.r) ++ [(Value.agg (Array.mk [(Value.string (eS keysV (Int.toNat (d15.i)))), (Value.string (std.dstr (std.mget (Value.string (ByteArray.mk (Array.mk []))) (Value.string (ByteArray.mk (Array.mk []))) (d15.es) (Value.string (eS keysV (Int.toNat (d15.i)))))))]))])) * 32) ≤ 140737488355328) ∧ ((((-9223372036854775808 : Int) ≤ ((d15.i) + (1 : Int))) ∧ (((d15.i) + (1 : Int)) ≤ (9223372036854775807 : Int))) ∧ (∃ (d19 : PaM), (([(Filler.dl (d19.r)), (Filler.dl keysV), (Filler.val (Value.int IntKind.i64 (d19.n))), (Filler.val (Value.int IntKind.i64 (d19.i))), (Filler.me (d19.es))] = [(Filler.dl ((d15.r) ++ [(Value.agg (Array.mk [(Value.string (eS keysV (Int.toNat (d15.i)))), (Value.string (std.dstr (std.mget (Value.string (ByteArray.mk (Array.mk []))) (Value.string (ByteArray.mk (Array.mk []))) (d15.es) (Value.string (eS keysV (Int.toNat (d15.i)))))))]))])), (Filler.dl keysV), (Filler.val (Value.int IntKind.i64 (d15.n))), (Filler.val (Value.int IntKind.i64 ((d15.i) + (1 : Int)))), (Filler.me (d15.es))]) ∧ ((Nat.le (Nat.succ ((fun d : PaM => (d.n - d.i).toNat) d19)) ((fun d : PaM => (d.n - d.i).toNat) d15)) ∧ (pairJ xs d19))))))) ∧ (((std.mhas (Value.string (ByteArray.mk (Array.mk []))) (d15.es) (Value.string (eS keysV (Int.toNat (d15.i))))) = false) → ((((-9223372036854775808 : Int) ≤ ((d15.i) + (1 : Int))) ∧ (((d15.i) + (1 : Int)) ≤ (9223372036854775807 : Int))) ∧ (∃ (d19 : PaM), (([(Filler.dl (d19.r)), (Filler.dl keysV), (Filler.val (Value.int IntKind.i64 (d19.n))), (Filler.val (Value.int IntKind.i64 (d19.i))), (Filler.me (d19.es))] = [(Filler.dl (d15.r)), (Filler.dl keysV), (Filler.val (Value.int IntKind.i64 (d15.n))), (Filler.val (Value.int IntKind.i64 ((d15.i) + (1 : Int)))), (Filler.me (d15.es))]) ∧ ((Nat.le (Nat.succ ((fun d : PaM => (d.n - d.i).toNat) d19)) ((fun d : PaM => (d.n - d.i).toNat) d15)) ∧ (pairJ xs d19))))))))) ∧ (((decide ((d15.i) < (d15.n))) = false) → ([(dsl zP (d15.r))] = [(dsl zP (kvF.pairs xs))])))))))) := by
  refine ⟨⟨[], 12, 0, es⟩, rfl, ⟨rfl, he, 0, rfl, Nat.zero_le _, rfl⟩, fun d ⟨hn, hes, i, hi, hle, hr⟩ => ⟨fun h => ?_, fun h => ?_⟩⟩
  · have h := of_decide_eq_true h
    have hlt : i < 12 := by omega
    have hlen := outL_len d.es i
    have ho : outL d.es (i + 1) = if mhas zS d.es (.string (eS keysV i)) then outL d.es i ++ [prV (eS keysV i) (dstr (mget zS zS d.es (.string (eS keysV i))))] else outL d.es i := rfl
    rw [hi, Int.toNat_natCast]
    refine ⟨⟨by omega, by rw [keysV_len]; omega⟩, fun e => ⟨?_, by omega, ⟨d.r ++ [prV (eS keysV i) (dstr (mget zS zS d.es (.string (eS keysV i))))], d.n, (i : Int) + 1, d.es⟩, rfl, ?_, hn, hes, i + 1, rfl, hlt, ?_⟩, fun e => ⟨by omega, ⟨d.r, d.n, (i : Int) + 1, d.es⟩, rfl, ?_, hn, hes, i + 1, rfl, hlt, ?_⟩⟩
    · rw [hr, List.length_append]; show ((outL d.es i).length + 1) * 32 ≤ _; omega
    · show (d.n - ((i : Int) + 1)).toNat + 1 ≤ (d.n - d.i).toNat; omega
    · show d.r ++ _ = outL d.es (i + 1)
      rw [ho, if_pos (show mhas zS d.es (.string (eS keysV i)) = true from e), hr]
    · show (d.n - ((i : Int) + 1)).toNat + 1 ≤ (d.n - d.i).toNat; omega
    · show d.r = outL d.es (i + 1)
      rw [ho, if_neg (by rw [show mhas zS d.es (.string (eS keysV i)) = false from e]; exact Bool.false_ne_true), hr]
  · have h := of_decide_eq_false h
    show [dsl zP d.r] = [dsl zP (pairsF xs)]
    rw [hr, hes, show i = 12 by omega]; rfl
theorem pairs_run (xs : List Value) (hx : IntsOk xs) : Holds (runP std (pairsCon std kvF) 60 (pairsLs xs keysV (pairI xs) (fun d => ((xs.length : Int) - d.i).toNat) (pairJ xs) fun d => (d.n - d.i).toNat) (pairsP std kvF) 12 Try.f12 (xs, ())) := by
  constructor
  rw [pairs_vc]
  refine ⟨⟨0, []⟩, rfl, ⟨0, rfl, Nat.zero_le _, Nat.zero_le _, rfl⟩, fun d ⟨i, hi, hle, h12, hes⟩ => ⟨fun h => ⟨fun h1 => ?_, fun h1 => ?_⟩, fun h => ?_⟩⟩
  · have h := of_decide_eq_true h
    have h1 := of_decide_eq_true h1
    have hlt : i < xs.length := by omega
    have hv := hx i hlt
    have hq := tdiv_small hv
    rw [hi, Int.toNat_natCast]
    refine ⟨by omega, hv, by omega, ⟨by omega, hv⟩, hq, by omega, ⟨(i : Int) + 1, esF xs (i + 1)⟩, ?_, ?_, i + 1, rfl, hlt, by omega, rfl⟩
    · rw [esF_next, ← hes]; rfl
    · show ((xs.length : Int) - ((i : Int) + 1)).toNat + 1 ≤ ((xs.length : Int) - (i : Int)).toNat; omega
  · have h := of_decide_eq_true h
    have h1 := of_decide_eq_false h1
    exact pairs2 xs (by rw [hes]; congr 1; omega)
  · have h := of_decide_eq_false h
    exact pairs2 xs (by rw [hes]; congr 1; omega)
theorem pairsCon_ok : ConOk Try.prog (pairsCon std kvF) := draw_ok (noCon_ok _) fun x hx => by
  simp only [List.mem_cons, List.not_mem_nil, or_false] at hx
  rcases hx with rfl | rfl
  · exact dcon_ok rfl key_ok
  · exact dcon_ok rfl txt_ok
theorem pairs_ok : PFOk Try.prog 12 (pairsP std kvF) :=
  pf_ok (LS := fun d => pairsLs d.1 keysV (pairI d.1) (fun e => ((d.1.length : Int) - e.i).toNat) (pairJ d.1) fun e => (e.n - e.i).toNat) Try.progOk pairsCon_ok (inCallF_ok 60) (pairsP std kvF) Try.func12 (show _ = some (bodyS Try.prog 12) by kernel_rfl) fun d hd => by
    obtain ⟨h⟩ := pairs_run d.1 hd
    exact h
/-- Values are among the texts. -/
theorem txt_small (n : Int) : lenB (txtF n) ≤ 8 := by
  have : ∀ k, k < 5 → lenB (eS txtsV k) ≤ 8 := by decide +kernel
  exact this _ (by omega)
def ValsOk (es : List (Value × Value)) : Prop := ∀ e ∈ es, ∃ s, e.2 = .string s ∧ lenB s ≤ 8
theorem mput_vals {kz k : Value} {s : ByteArray} (hs : lenB s ≤ 8) : ∀ {es : List (Value × Value)}, ValsOk es → ValsOk (mput kz es k (.string s))
  | [], _, e, he => by rw [List.mem_singleton.1 he]; exact ⟨s, rfl, hs⟩
  | e0 :: es, h, e, he => by
    unfold mput at he
    split at he
    · rcases List.mem_cons.1 he with rfl | he
      · exact ⟨s, rfl, hs⟩
      · exact h e (List.mem_cons_of_mem _ he)
    · rcases List.mem_cons.1 he with rfl | he
      · exact h _ (List.mem_cons_self ..)
      · exact mput_vals hs (fun e he => h e (List.mem_cons_of_mem _ he)) e he
theorem es_vals (xs : List Value) : ∀ n, ValsOk (esF xs n)
  | 0, e, he => by cases he
  | n + 1, e, he => mput_vals (txt_small _) (es_vals xs n) e he
theorem mget_small {kz k : Value} : ∀ {es : List (Value × Value)}, ValsOk es → lenB (dstr (mget kz zS es k)) ≤ 8
  | [], _ => by show 0 ≤ 8; omega
  | e0 :: es, h => by
    by_cases c : keyB kz e0.1 k = true
    · obtain ⟨s, h1, h2⟩ := h e0 (List.mem_cons_self ..)
      have : mget kz zS (e0 :: es) k = e0.2 := by unfold mget mfind; rw [if_pos c]; rfl
      rw [this, h1]; exact h2
    · have : mget kz zS (e0 :: es) k = mget kz zS es k := by unfold mget; rw [show mfind kz (e0 :: es) k = mfind kz es k by rw [mfind, if_neg c]]
      rw [this]
      exact mget_small fun e he => h e (List.mem_cons_of_mem _ he)
theorem out_mem {es : List (Value × Value)} (h : ValsOk es) : ∀ {i : Nat} {x : Value}, x ∈ outL es i → ∃ j s, j < i ∧ x = prV (eS keysV j) s ∧ lenB s ≤ 8
  | 0, x, hx => by cases hx
  | i + 1, x, hx => by
    unfold outL at hx
    split at hx
    · rcases List.mem_append.1 hx with hx | hx
      · obtain ⟨j, s, h1, h2⟩ := out_mem h hx
        exact ⟨j, s, by omega, h2⟩
      · exact ⟨i, _, by omega, List.mem_singleton.1 hx, mget_small h⟩
    · obtain ⟨j, s, h1, h2⟩ := out_mem h hx
      exact ⟨j, s, by omega, h2⟩
theorem keys_rise : ∀ j, j < 12 → ∀ i, i < j → ltB (eS keysV i) (eS keysV j) = true := by decide +kernel
theorem keys_small : ∀ j, j < 12 → eqB (eS keysV j) noB = false ∧ lenB (eS keysV j) ≤ 16 := by decide +kernel
theorem out_ord {es : List (Value × Value)} (h : ValsOk es) : ∀ {i : Nat}, i ≤ 12 → Ord (outL es i)
  | 0, _ => List.Pairwise.nil
  | i + 1, hi => by
    have ih := out_ord h (i := i) (by omega)
    unfold outL
    split
    · refine List.pairwise_append.2 ⟨ih, List.pairwise_singleton _ _, fun a ha b hb => ?_⟩
      obtain ⟨j, s, h1, rfl, h3⟩ := out_mem h ha
      rw [List.mem_singleton.1 hb]
      exact keys_rise i (by omega) j h1
    · exact ih
theorem pairs_right (xs : List Value) : RightL (pairsF xs) := by
  have hv := es_vals xs (min xs.length 12)
  have hm := fun {x} => out_mem hv (i := 12) (x := x)
  refine ⟨(right_iff _).2 ⟨fun x hx => ?_, out_ord hv (Nat.le_refl _), ?_⟩, fun x hx => ?_⟩
  · obtain ⟨j, s, h1, rfl, h3⟩ := hm hx
    have := keys_small j h1
    show mayF (eS keysV j) s = true
    unfold mayF
    rw [this.1, decide_eq_true (by omega), decide_eq_true (by omega)]; rfl
  · have := outL_len (esF xs (min xs.length 12)) 12
    show (outL _ 12).length ≤ 30
    omega
  · obtain ⟨j, s, h1, rfl, h3⟩ := hm hx
    rfl
end Go.Proofs.Ytolkoacllaaceaa
end
section
namespace Go.Proofs.Ytolkoacllaaceaa
open Go.RowKit Go.Abs Go
theorem shr7' (n : Int) : std.shr .i64 n 7 = n / 128 := by
  show n.fdiv 128 = n / 128
  exact Int.fdiv_eq_ediv_of_nonneg n (by omega)
theorem oneL_len : ∀ (f : Nat) (n : Int), (oneL f n).length ≤ f
  | 0, _ => Nat.le_refl _
  | f + 1, n => by
    unfold oneL
    split
    · have := oneL_len f (std.shr .i64 n 7)
      simp; omega
    · simp
def oneI (n : Int) (d : OneL) : Prop := ∃ f : Nat, d.r ++ oneL (f + 1) d.n = oneF n ∧ 0 ≤ d.n ∧ d.n < 128 ^ (f + 1) ∧ d.r.length + f ≤ 6
theorem one_run (n : Int) (hn : 0 ≤ n ∧ n ≤ 1099511627775) : runP std noCon 40 (oneLs (oneI n) fun d => d.n.toNat) (oneP std kvF) 35 Try.f35 (n, ()) := by
  rw [one_vc]
  refine ⟨fun h => ?_, fun _ => ⟨fun h => ?_, fun _ => ⟨⟨n, []⟩, rfl, ⟨6, rfl, hn.1, ?_, by simp⟩, fun d ⟨f, h1, h2, h3, h4⟩ => ⟨fun h => ?_, fun h => ?_⟩⟩⟩⟩
  · have h := of_decide_eq_true h; omega
  · have h := of_decide_eq_true h; omega
  · show n < 128 ^ 7
    omega
  · have h := of_decide_eq_true h
    obtain ⟨f, rfl⟩ : ∃ f', f = f' + 1 := by
      cases f with
      | zero => simp at h3; omega
      | succ f => exact ⟨f, rfl⟩
    have e : oneL (f + 1 + 1) d.n = .int .u8 (std.wrap .u8 (std.bor .i64 (std.band .i64 d.n 127) 128)) :: oneL (f + 1) (std.shr .i64 d.n 7) := by
      conv => lhs; unfold oneL
      rw [if_pos h]
    rw [e] at h1
    refine ⟨?_, by decide, ⟨_, _⟩, rfl, ?_, f, ?_, ?_, ?_, ?_⟩
    · simp only [List.length_append, List.length_cons, List.length_nil]; omega
    · show (std.shr .i64 d.n 7).toNat + 1 ≤ d.n.toNat
      rw [shr7']; omega
    · show (d.r ++ [_]) ++ oneL (f + 1) (std.shr .i64 d.n 7) = oneF n
      rw [List.append_assoc]; exact h1
    · show 0 ≤ std.shr .i64 d.n 7
      rw [shr7']; omega
    · show std.shr .i64 d.n 7 < 128 ^ (f + 1)
      rw [shr7', Int.ediv_lt_iff_lt_mul (by omega)]
      rw [Int.pow_succ] at h3
      exact h3
    · simp only [List.length_append, List.length_cons, List.length_nil]; omega
  · have h : ¬ 127 < d.n := of_decide_eq_false h
    have e : oneL (f + 1) d.n = [.int .u8 (std.wrap .u8 d.n)] := by unfold oneL; rw [if_neg h]
    rw [e] at h1
    refine ⟨?_, ?_⟩
    · simp only [List.length_append, List.length_cons, List.length_nil]; omega
    · show [dsl (.int .u8 0) (d.r ++ [.int .u8 (std.wrap .u8 d.n)])] = [dsl (.int .u8 0) (oneF n)]
      rw [h1]
def textL (xs : List Value) : Nat → List Value
  | 0 => []
  | i + 1 => textL xs i ++ (oneF (lenB (eS xs i) : Int) ++ std.svals (eS xs i))
theorem textL_eq (xs : List Value) : ∀ n, textL xs n = (List.range n).flatMap fun i => oneF (lenB (eS xs i) : Int) ++ std.svals (eS xs i)
  | 0 => rfl
  | n + 1 => by unfold textL; rw [textL_eq xs n, List.range_succ, List.flatMap_append]; simp
theorem svals_len (s : ByteArray) : (std.svals s).length = lenB s := List.length_map ..
theorem textL_len {xs : List Value} (hl : ∀ i, i < xs.length → lenB (eS xs i) ≤ 1000000) : ∀ i, i ≤ xs.length → (textL xs i).length ≤ i * 1000007
  | 0, _ => by simp [textL]
  | i + 1, h => by
    have h1 := textL_len hl i (by omega)
    have h2 := hl i (by omega)
    have h3 := oneL_len 7 (lenB (eS xs i) : Int)
    unfold textL
    rw [List.length_append, List.length_append, svals_len]
    show _ + ((oneL 7 _).length + _) ≤ _
    omega
theorem text_run (xs : List Value) (hx : xs.length ≤ 2) (hl : ∀ i, i < xs.length → lenB (eS xs i) ≤ 1000000) : runP std (textCon std kvF) 40 (textLs xs (fun d => d.n = xs.length ∧ ∃ i : Nat, d.i = i ∧ i ≤ xs.length ∧ d.r = textL xs i) fun d => (d.n - d.i).toNat) (textP std kvF) 30 Try.f30 (xs, ()) := by
  rw [text_vc]
  refine ⟨⟨[], xs.length, 0⟩, rfl, ⟨rfl, 0, rfl, Nat.zero_le _, rfl⟩, fun d ⟨hn, i, hi, hle, hr⟩ => ⟨fun h => ?_, fun h => ?_⟩⟩
  · have h := of_decide_eq_true h
    have h1 := hl i (by omega)
    have h2 := textL_len hl i hle
    have h3 := oneL_len 7 (lenB (eS xs i) : Int)
    have h4 : (textL xs i).length ≤ 2000014 := by omega
    have e1 : kvF.one (std.slen (eS xs i) : Int) = oneL 7 (lenB (eS xs i) : Int) := rfl
    have e2 : std.slen (eS xs i) = lenB (eS xs i) := rfl
    rw [hi, Int.toNat_natCast, hr, e1, e2]
    refine ⟨by omega, by omega, ?_, ?_, by omega, ⟨_, d.n, (i : Int) + 1⟩, rfl, ?_, hn, i + 1, rfl, by omega, ?_⟩
    · rw [List.length_append]; omega
    · rw [List.length_append, List.length_append, svals_len]; omega
    · show (d.n - ((i : Int) + 1)).toNat + 1 ≤ (d.n - (i : Int)).toNat
      omega
    · show textL xs i ++ oneL 7 _ ++ std.svals (eS xs i) = textL xs (i + 1)
      rw [List.append_assoc]; rfl
  · have h := of_decide_eq_false h
    rw [hr, show i = xs.length by omega]
    show [dsl (.int .u8 0) (textL xs xs.length)] = [dsl (.int .u8 0) (textF xs)]
    rw [textL_eq]; rfl
theorem leaf_run (k v : ByteArray) (hk : lenB k ≤ 1000000) (hv : lenB v ≤ 1000000) : runP std (leafCon std kvF) 40 noL (leafP std kvF) 23 Try.f23 ((k, v, ()), ()) := by
  rw [leaf_vc]
  refine ⟨⟨Nat.le_refl 2, fun i hi => ?_⟩, rfl⟩
  match i, hi with
  | 0, _ => exact hk
  | 1, _ => exact hv
theorem svals_inj {s t : ByteArray} (h : std.svals s = std.svals t) : s = t := by
  have h : (s.data.toList.map fun b : UInt8 => Value.int .u8 b.toNat) = t.data.toList.map fun b : UInt8 => Value.int .u8 b.toNat := h
  have : s.data.toList = t.data.toList := by
    refine List.map_inj_right (fun a b e => ?_) |>.1 h
    simp only [Value.int.injEq, true_and] at e
    rw [u8_eq']; omega
  exact eqB_iff.1 (by unfold eqB; rw [this]; exact beq_self_eq_true _)
where u8_eq' {a b : UInt8} : a = b ↔ a.toNat = b.toNat := UInt8.toNat_inj.symm
/-- Small texts tell what they were made of. -/
theorem leaf_inj {k v k' v' : ByteArray} (h1 : lenB k ≤ 127) (h2 : lenB k' ≤ 127) (h : leafF k v = leafF k' v') : k = k' := by
  have small : ∀ s : ByteArray, lenB s ≤ 127 → oneF (lenB s : Int) = [.int .u8 (lenB s : Int)] := fun s hs => by
    unfold oneF oneL
    rw [if_neg (by omega)]
    have : std.wrap .u8 (lenB s : Int) = (lenB s : Int) := by
      show (lenB s : Int) % 256 = _
      omega
    rw [this]
  have e : ∀ a b : ByteArray, leafF a b = oneF (lenB a : Int) ++ std.svals a ++ (oneF (lenB b : Int) ++ std.svals b ++ []) := fun a b => rfl
  rw [e, e, small k h1, small k' h2] at h
  simp only [List.cons_append, List.nil_append, List.cons.injEq, Value.int.injEq, true_and] at h
  exact svals_inj (List.append_inj h.2 (by rw [svals_len, svals_len]; omega)).1
end Go.Proofs.Ytolkoacllaaceaa
end
section
namespace Go.Proofs.Ytolkoacllaaceaa
open Go.RowKit Go.Abs Go
theorem bs_idx {l : List Value} (ho : Ord l) (k : ByteArray) : ∃ r : Nat, bsF l k = r ∧ r ≤ l.length ∧ (∀ i, i < r → ltB (kP l i) k = true) ∧ ∀ i, r ≤ i → i < l.length → ltB (kP l i) k = false := by
  have hr := bsF_range l k
  have hb := bs_rfirst k ho
  obtain ⟨h1, h2, h3, h4⟩ := firstN_ok (fun i => ltB (kP l i) k) l.length 0
  generalize hR : firstN (fun i => ltB (kP l i) k) l.length 0 = r at h1 h2 h3 h4
  have he : bsF l k = r := by rw [hb]; unfold rfirstF; rw [hR]
  refine ⟨r, he, by omega, fun i hi => h3 i (Nat.zero_le _) hi, fun i h5 h6 => ?_⟩
  cases hc : ltB (kP l i) k with
  | false => rfl
  | true =>
    have h7 := h4 (by omega)
    rcases Nat.lt_or_ge r i with h | h
    · rw [mono_of k ho r i h h6 hc] at h7; cases h7
    · rw [show i = r by omega] at hc; rw [hc] at h7; cases h7
theorem filter_idx {l : List Value} {p : Value → Bool} {i0 i1 : Nat} (h0 : i0 ≤ i1) (h1 : i1 ≤ l.length) (hp : ∀ i (h : i < l.length), p l[i] = decide (i0 ≤ i ∧ i < i1)) : l.filter p = (l.drop i0).take (i1 - i0) := by
  have hs : l = l.take i0 ++ ((l.drop i0).take (i1 - i0) ++ l.drop i1) := by
    conv => lhs; rw [← List.take_append_drop i0 l]
    congr 1
    conv => lhs; rw [← List.take_append_drop (i1 - i0) (l.drop i0)]
    rw [List.drop_drop, show i0 + (i1 - i0) = i1 by omega]
  conv => lhs; rw [hs]
  rw [List.filter_append, List.filter_append]
  have e1 : (l.take i0).filter p = [] := List.filter_eq_nil_iff.2 fun x hx => by
    obtain ⟨i, hi, rfl⟩ := List.getElem_of_mem hx
    rw [List.length_take] at hi
    rw [List.getElem_take, hp i (by omega), decide_eq_false (by omega)]; exact Bool.false_ne_true
  have e2 : ((l.drop i0).take (i1 - i0)).filter p = (l.drop i0).take (i1 - i0) := List.filter_eq_self.2 fun x hx => by
    obtain ⟨i, hi, rfl⟩ := List.getElem_of_mem hx
    rw [List.length_take, List.length_drop] at hi
    rw [List.getElem_take, List.getElem_drop, hp _ (by omega)]
    exact decide_eq_true (by omega)
  have e3 : (l.drop i1).filter p = [] := List.filter_eq_nil_iff.2 fun x hx => by
    obtain ⟨i, hi, rfl⟩ := List.getElem_of_mem hx
    rw [List.length_drop] at hi
    rw [List.getElem_drop, hp _ (by omega), decide_eq_false (by omega)]; exact Bool.false_ne_true
  rw [e1, e2, e3]; simp
def inRange (a b : ByteArray) (x : Value) : Bool := !ltB (keyV x) a && ltB (keyV x) b
theorem rng_filter {l : List Value} (ho : Ord l) (a b : ByteArray) : rngF l a b = l.filter (inRange a b) := by
  obtain ⟨ia, ha, hla, a1, a2⟩ := bs_idx ho a
  obtain ⟨ib, hb, hlb, b1, b2⟩ := bs_idx ho b
  unfold rngF
  rw [ha, hb, filter_idx (i0 := ia) (i1 := max ia ib) (by omega) (by omega) fun i hi => ?_]
  · rw [Int.toNat_natCast, show (max (ia : Int) (ib : Int)).toNat = max ia ib by omega]
  · unfold inRange
    rw [← kP_get hi]
    by_cases h1 : i < ia
    · rw [a1 i h1, decide_eq_false (by omega)]; rfl
    · rw [a2 i (by omega) hi]
      by_cases h2 : i < ib
      · rw [b1 i h2, decide_eq_true (by omega)]; rfl
      · rw [b2 i (by omega) hi, decide_eq_false (by omega)]; rfl
theorem bs_mono {l : List Value} (ho : Ord l) {a b : ByteArray} (h : (ltB a b || eqB a b) = true) : bsF l a ≤ bsF l b := by
  obtain ⟨ia, ha, hla, a1, a2⟩ := bs_idx ho a
  obtain ⟨ib, hb, hlb, b1, b2⟩ := bs_idx ho b
  rw [ha, hb]
  rcases Nat.lt_or_ge ib ia with hlt | hge
  · exfalso
    have h1 := a1 ib hlt
    have h2 := b2 ib (Nat.le_refl _) (by omega)
    rw [Bool.or_eq_true] at h
    rcases h with h | h
    · rw [lt_trans h1 h] at h2; cases h2
    · rw [← eqB_iff.1 h, h1] at h2; cases h2
  · omega
theorem rng_join {l : List Value} (ho : Ord l) {a b c : ByteArray} (h1 : (ltB a b || eqB a b) = true) (h2 : (ltB b c || eqB b c) = true) : rngF l a b ++ rngF l b c = rngF l a c := by
  have m1 := bs_mono ho h1
  have m2 := bs_mono ho h2
  have r1 := bsF_range l a
  unfold rngF
  rw [show max (bsF l a) (bsF l b) = bsF l b by omega, show max (bsF l b) (bsF l c) = bsF l c by omega, show max (bsF l a) (bsF l c) = bsF l c by omega]
  have e : l.drop (bsF l b).toNat = (l.drop (bsF l a).toNat).drop ((bsF l b).toNat - (bsF l a).toNat) := by
    rw [List.drop_drop]; congr 1; omega
  rw [e, ← List.take_add]
  congr 1; omega
theorem rng_len {l : List Value} (hl : l.length ≤ 1000000) (a b : ByteArray) : (rngF l a b).length ≤ l.length := by
  unfold rngF
  rw [List.length_take, List.length_drop]; omega
/-- The next of a range. -/
theorem filter_next {l : List Value} {p : Value → Bool} {i : Nat} (hi : i < l.length) (hp : p l[i] = true) : ((l.take i).filter p).length < (l.filter p).length ∧ kP (l.filter p) ((l.take i).filter p).length = kP l i ∧ vP (l.filter p) ((l.take i).filter p).length = vP l i ∧ ((l.take (i + 1)).filter p).length = ((l.take i).filter p).length + 1 := by
  have hs : l.filter p = (l.take i).filter p ++ (l[i] :: (l.drop (i + 1)).filter p) := by
    conv => lhs; rw [← List.take_append_drop i l, List.drop_eq_getElem_cons hi]
    rw [List.filter_append, List.filter_cons, if_pos hp]
  have hlt : ((l.take i).filter p).length < (l.filter p).length := by rw [hs]; simp
  have hg : (l.filter p)[((l.take i).filter p).length]'hlt = l[i] := by
    have : (l.filter p)[((l.take i).filter p).length]? = some l[i] := by rw [hs, List.getElem?_append_right (Nat.le_refl _)]; simp
    rw [List.getElem?_eq_getElem hlt] at this
    exact Option.some.inj this
  refine ⟨hlt, by rw [kP_get hlt, kP_get hi, hg], by rw [vP_get hlt, vP_get hi, hg], ?_⟩
  rw [List.take_add_one, List.getElem?_eq_getElem hi, Option.toList_some, List.filter_append, List.length_append]
  simp [List.filter, hp]
theorem filter_skip {l : List Value} {p : Value → Bool} {i : Nat} (hi : i < l.length) (hp : p l[i] = false) : ((l.take (i + 1)).filter p).length = ((l.take i).filter p).length := by
  rw [List.take_add_one, List.getElem?_eq_getElem hi, Option.toList_some, List.filter_append, List.length_append]
  simp [List.filter, hp]
end Go.Proofs.Ytolkoacllaaceaa
end
section
namespace Go.Proofs.Ytolkoacllaaceaa
open Go.Abs Go
set_option maxRecDepth 100000 in
theorem within_vc (g : KvF) (n lo hi : Int) : runP std noCon 40 noL (withinP std g) 13 Try.f13 (n, lo, hi, ()) =
  ((((-9223372036854775808 : Int) ≤ (hi - lo)) ∧ ((hi - lo) ≤ (9223372036854775807 : Int))) ∧ ((((-9223372036854775808 : Int) ≤ ((hi - lo) + (1 : Int))) ∧ (((hi - lo) + (1 : Int)) ≤ (9223372036854775807 : Int))) ∧ (((0 : Int) < ((hi - lo) + (1 : Int))) ∧ ((((decide ((std.rem n ((hi - lo) + (1 : Int))) < (0 : Int))) = true) → ((((-9223372036854775808 : Int) ≤ ((std.rem n ((hi - lo) + (1 : Int))) + hi)) ∧ (((std.rem n ((hi - lo) + (1 : Int))) + hi) ≤ (9223372036854775807 : Int))) ∧ ((((-9223372036854775808 : Int) ≤ (((std.rem n ((hi - lo) + (1 : Int))) + hi) - lo)) ∧ ((((std.rem n ((hi - lo) + (1 : Int))) + hi) - lo) ≤ (9223372036854775807 : Int))) ∧ ((((-9223372036854775808 : Int) ≤ ((((std.rem n ((hi - lo) + (1 : Int))) + hi) - lo) + (1 : Int))) ∧ (((((std.rem n ((hi - lo) + (1 : Int))) + hi) - lo) + (1 : Int)) ≤ (9223372036854775807 : Int))) ∧ ((((-9223372036854775808 : Int) ≤ (lo + ((((std.rem n ((hi - lo) + (1 : Int))) + hi) - lo) + (1 : Int)))) ∧ ((lo + ((((std.rem n ((hi - lo) + (1 : Int))) + hi) - lo) + (1 : Int))) ≤ (9223372036854775807 : Int))) ∧ ([(Value.int IntKind.i64 (lo + ((((std.rem n ((hi - lo) + (1 : Int))) + hi) - lo) + (1 : Int))))] = [(Value.int IntKind.i64 (g.wi n lo hi))])))))) ∧ (((decide ((std.rem n ((hi - lo) + (1 : Int))) < (0 : Int))) = false) → ((((-9223372036854775808 : Int) ≤ (lo + (std.rem n ((hi - lo) + (1 : Int))))) ∧ ((lo + (std.rem n ((hi - lo) + (1 : Int)))) ≤ (9223372036854775807 : Int))) ∧ ([(Value.int IntKind.i64 (lo + (std.rem n ((hi - lo) + (1 : Int)))))] = [(Value.int IntKind.i64 (g.wi n lo hi))]))))))) := by kernel_rfl
def order_vc_L1 (g : KvF) (xs : List Value) (n : Int) (G : OrC → Prop) (w : OrC → Nat) (d17 : OrB) : Prop :=
  (∃ (d21 : OrC), (([(Filler.val (Value.int IntKind.i64 n)), (Filler.dl (g.pairs xs)), (Filler.dl (d21.x)), (Filler.dl (d21.y)), (Filler.dl (d21.f)), (Filler.val (Value.int IntKind.i64 (d21.i)))] = [(Filler.val (Value.int IntKind.i64 n)), (Filler.dl (g.pairs xs)), (Filler.dl (d17.x)), (Filler.dl (g.set (d17.x) (ByteArray.mk (Array.mk [(109 : UInt8)])) (ByteArray.mk (Array.mk [])))), (Filler.dl []), (Filler.val (Value.int IntKind.i64 (0 : Int)))]) ∧ ((G d21) ∧ (∀ (d22 : OrC), ((G d22) → ((((decide ((d22.i) < (32 : Int))) = true) → ((((0 : Int) < (26 : Int)) ∧ (((-9223372036854775808 : Int) ≤ (d22.i)) ∧ ((d22.i) ≤ (9223372036854775807 : Int)))) ∧ ((((-9223372036854775808 : Int) ≤ ((97 : Int) + (std.quo (d22.i) (26 : Int)))) ∧ (((97 : Int) + (std.quo (d22.i) (26 : Int))) ≤ (9223372036854775807 : Int))) ∧ (((0 : Int) < (26 : Int)) ∧ ((((-9223372036854775808 : Int) ≤ ((97 : Int) + (std.rem (d22.i) (26 : Int)))) ∧ (((97 : Int) + (std.rem (d22.i) (26 : Int))) ≤ (9223372036854775807 : Int))) ∧ ((((std.slen (ByteArray.mk (Array.mk [(107 : UInt8)]))) + (std.slen (std.sof (std.ints [(Value.int IntKind.u8 (std.wrap IntKind.u8 ((97 : Int) + (std.quo (d22.i) (26 : Int))))), (Value.int IntKind.u8 (std.wrap IntKind.u8 ((97 : Int) + (std.rem (d22.i) (26 : Int)))))])))) ≤ 9223372036854775807) ∧ (((List.length (d22.f)) ≤ 1000000) ∧ ((((g.setok (d22.f) ((ByteArray.mk (Array.mk [(107 : UInt8)])) ++ (std.sof (std.ints [(Value.int IntKind.u8 (std.wrap IntKind.u8 ((97 : Int) + (std.quo (d22.i) (26 : Int))))), (Value.int IntKind.u8 (std.wrap IntKind.u8 ((97 : Int) + (std.rem (d22.i) (26 : Int)))))]))) (ByteArray.mk (Array.mk []))) = true) → ((((decide ((d22.i) < (30 : Int))) = true) → ((((-9223372036854775808 : Int) ≤ ((d22.i) + (1 : Int))) ∧ (((d22.i) + (1 : Int)) ≤ (9223372036854775807 : Int))) ∧ (∃ (d27 : OrC), (([(Filler.val (Value.int IntKind.i64 n)), (Filler.dl (g.pairs xs)), (Filler.dl (d27.x)), (Filler.dl (d27.y)), (Filler.dl (d27.f)), (Filler.val (Value.int IntKind.i64 (d27.i)))] = [(Filler.val (Value.int IntKind.i64 n)), (Filler.dl (g.pairs xs)), (Filler.dl (d22.x)), (Filler.dl (d22.y)), (Filler.dl (g.set (d22.f) ((ByteArray.mk (Array.mk [(107 : UInt8)])) ++ (std.sof (std.ints [(Value.int IntKind.u8 (std.wrap IntKind.u8 ((97 : Int) + (std.quo (d22.i) (26 : Int))))), (Value.int IntKind.u8 (std.wrap IntKind.u8 ((97 : Int) + (std.rem (d22.i) (26 : Int)))))]))) (ByteArray.mk (Array.mk [])))), (Filler.val (Value.int IntKind.i64 ((d22.i) + (1 : Int))))]) ∧ ((Nat.le (Nat.succ (w d27)) (w d22)) ∧ (G d27)))))) ∧ (((decide ((d22.i) < (30 : Int))) = false) → ([(Value.bool false)] = [(Value.bool true)])))) ∧ (((g.setok (d22.f) ((ByteArray.mk (Array.mk [(107 : UInt8)])) ++ (std.sof (std.ints [(Value.int IntKind.u8 (std.wrap IntKind.u8 ((97 : Int) + (std.quo (d22.i) (26 : Int))))), (Value.int IntKind.u8 (std.wrap IntKind.u8 ((97 : Int) + (std.rem (d22.i) (26 : Int)))))]))) (ByteArray.mk (Array.mk []))) = false) → ((((decide ((d22.i) < (30 : Int))) = true) → ([(Value.bool false)] = [(Value.bool true)])) ∧ (((decide ((d22.i) < (30 : Int))) = false) → ((((-9223372036854775808 : Int) ≤ ((d22.i) + (1 : Int))) ∧ (((d22.i) + (1 : Int)) ≤ (9223372036854775807 : Int))) ∧ (∃ (d27 : OrC), (([(Filler.val (Value.int IntKind.i64 n)), (Filler.dl (g.pairs xs)), (Filler.dl (d27.x)), (Filler.dl (d27.y)), (Filler.dl (d27.f)), (Filler.val (Value.int IntKind.i64 (d27.i)))] = [(Filler.val (Value.int IntKind.i64 n)), (Filler.dl (g.pairs xs)), (Filler.dl (d22.x)), (Filler.dl (d22.y)), (Filler.dl (g.set (d22.f) ((ByteArray.mk (Array.mk [(107 : UInt8)])) ++ (std.sof (std.ints [(Value.int IntKind.u8 (std.wrap IntKind.u8 ((97 : Int) + (std.quo (d22.i) (26 : Int))))), (Value.int IntKind.u8 (std.wrap IntKind.u8 ((97 : Int) + (std.rem (d22.i) (26 : Int)))))]))) (ByteArray.mk (Array.mk [])))), (Filler.val (Value.int IntKind.i64 ((d22.i) + (1 : Int))))]) ∧ ((Nat.le (Nat.succ (w d27)) (w d22)) ∧ (G d27)))))))))))))))) ∧ (((decide ((d22.i) < (32 : Int))) = false) → ((((!(((List.length (d22.f)) : Int) == (30 : Int))) = true) → ([(Value.bool false)] = [(Value.bool true)])) ∧ (((!(((List.length (d22.f)) : Int) == (30 : Int))) = false) → ((((-9223372036854775808 : Int) ≤ (((List.length (d22.f)) : Int) - (1 : Int))) ∧ ((((List.length (d22.f)) : Int) - (1 : Int)) ≤ (9223372036854775807 : Int))) ∧ (((((-9223372036854775808 : Int) ≤ n) ∧ (n ≤ (9223372036854775807 : Int))) ∧ (((-1000000000000 : Int) ≤ (0 : Int)) ∧ (((0 : Int) ≤ (((List.length (d22.f)) : Int) - (1 : Int))) ∧ ((((List.length (d22.f)) : Int) - (1 : Int)) ≤ (2000000000000 : Int))))) ∧ ((((0 : Int) ≤ (g.wi n (0 : Int) (((List.length (d22.f)) : Int) - (1 : Int)))) ∧ ((g.wi n (0 : Int) (((List.length (d22.f)) : Int) - (1 : Int))) < ((List.length (d22.f)) : Int))) ∧ (((List.length (d22.f)) ≤ 1000000) ∧ ((((g.setok (d22.f) (kP (d22.f) (Int.toNat (g.wi n (0 : Int) (((List.length (d22.f)) : Int) - (1 : Int))))) (ByteArray.mk (Array.mk [(110 : UInt8), (101 : UInt8), (119 : UInt8)]))) = true) → (((List.length (d22.x)) ≤ 1000000) ∧ ((((g.same (d22.x) (g.pairs xs)) = true) → (((List.length (d22.y)) ≤ 1000000) ∧ (((List.length (g.del (d22.y) (ByteArray.mk (Array.mk [(109 : UInt8)])))) ≤ 1000000) ∧ ((((g.same (g.del (d22.y) (ByteArray.mk (Array.mk [(109 : UInt8)]))) (g.pairs xs)) = true) → (((((((List.length (g.set (d22.f) (kP (d22.f) (Int.toNat (g.wi n (0 : Int) (((List.length (d22.f)) : Int) - (1 : Int))))) (ByteArray.mk (Array.mk [(110 : UInt8), (101 : UInt8), (119 : UInt8)])))) : Nat) : Int) == ((List.length (d22.f)) : Int)) = true) → (((List.length (d22.f)) ≤ 1000000) ∧ ((((g.right (d22.f)) = true) → ([(Value.bool true)] = [(Value.bool true)])) ∧ (((g.right (d22.f)) = false) → ([(Value.bool false)] = [(Value.bool true)]))))) ∧ ((((((List.length (g.set (d22.f) (kP (d22.f) (Int.toNat (g.wi n (0 : Int) (((List.length (d22.f)) : Int) - (1 : Int))))) (ByteArray.mk (Array.mk [(110 : UInt8), (101 : UInt8), (119 : UInt8)])))) : Nat) : Int) == ((List.length (d22.f)) : Int)) = false) → ([(Value.bool false)] = [(Value.bool true)])))) ∧ (((g.same (g.del (d22.y) (ByteArray.mk (Array.mk [(109 : UInt8)]))) (g.pairs xs)) = false) → ([(Value.bool false)] = [(Value.bool true)])))))) ∧ (((g.same (d22.x) (g.pairs xs)) = false) → ([(Value.bool false)] = [(Value.bool true)]))))) ∧ (((g.setok (d22.f) (kP (d22.f) (Int.toNat (g.wi n (0 : Int) (((List.length (d22.f)) : Int) - (1 : Int))))) (ByteArray.mk (Array.mk [(110 : UInt8), (101 : UInt8), (119 : UInt8)]))) = false) → (((List.length (d22.x)) ≤ 1000000) ∧ ((((g.same (d22.x) (g.pairs xs)) = true) → (((List.length (d22.y)) ≤ 1000000) ∧ (((List.length (g.del (d22.y) (ByteArray.mk (Array.mk [(109 : UInt8)])))) ≤ 1000000) ∧ ((((g.same (g.del (d22.y) (ByteArray.mk (Array.mk [(109 : UInt8)]))) (g.pairs xs)) = true) → ([(Value.bool false)] = [(Value.bool true)])) ∧ (((g.same (g.del (d22.y) (ByteArray.mk (Array.mk [(109 : UInt8)]))) (g.pairs xs)) = false) → ([(Value.bool false)] = [(Value.bool true)])))))) ∧ (((g.same (d22.x) (g.pairs xs)) = false) → ([(Value.bool false)] = [(Value.bool true)])))))))))))))))))))
def order_vc_L2 (g : KvF) (xs : List Value) (n : Int) (J : OrB → Prop) (q : OrB → Nat) (G : OrC → Prop) (w : OrC → Nat) (d13 : OrA) : Prop :=
  (∃ (d16 : OrB), (([(Filler.val (Value.int IntKind.i64 n)), (Filler.dl (g.pairs xs)), (Filler.dl (d16.x)), (Filler.dl (d16.tu)), (Filler.val (Value.int IntKind.i64 (d16.n))), (Filler.val (Value.int IntKind.i64 (d16.i)))] = [(Filler.val (Value.int IntKind.i64 n)), (Filler.dl (g.pairs xs)), (Filler.dl []), (Filler.dl (d13.tu)), (Filler.val (Value.int IntKind.i64 ((List.length (d13.tu)) : Int))), (Filler.val (Value.int IntKind.i64 (0 : Int)))]) ∧ ((J d16) ∧ (∀ (d17 : OrB), ((J d17) → ((((decide ((d17.i) < (d17.n))) = true) → ((((0 : Int) ≤ (d17.i)) ∧ ((d17.i) < ((List.length (d17.tu)) : Int))) ∧ (((List.length (d17.x)) ≤ 1000000) ∧ ((((g.setok (d17.x) (kP (d17.tu) (Int.toNat (d17.i))) (ByteArray.mk (Array.mk [(110 : UInt8), (111 : UInt8)]))) = true) → (((List.length (g.set (d17.x) (kP (d17.tu) (Int.toNat (d17.i))) (ByteArray.mk (Array.mk [(110 : UInt8), (111 : UInt8)])))) ≤ 1000000) ∧ ((((g.setok (g.set (d17.x) (kP (d17.tu) (Int.toNat (d17.i))) (ByteArray.mk (Array.mk [(110 : UInt8), (111 : UInt8)]))) (kP (d17.tu) (Int.toNat (d17.i))) (vP (d17.tu) (Int.toNat (d17.i)))) = true) → ((((-9223372036854775808 : Int) ≤ ((d17.i) + (1 : Int))) ∧ (((d17.i) + (1 : Int)) ≤ (9223372036854775807 : Int))) ∧ (∃ (d22 : OrB), (([(Filler.val (Value.int IntKind.i64 n)), (Filler.dl (g.pairs xs)), (Filler.dl (d22.x)), (Filler.dl (d22.tu)), (Filler.val (Value.int IntKind.i64 (d22.n))), (Filler.val (Value.int IntKind.i64 (d22.i)))] = [(Filler.val (Value.int IntKind.i64 n)), (Filler.dl (g.pairs xs)), (Filler.dl (g.set (g.set (d17.x) (kP (d17.tu) (Int.toNat (d17.i))) (ByteArray.mk (Array.mk [(110 : UInt8), (111 : UInt8)]))) (kP (d17.tu) (Int.toNat (d17.i))) (vP (d17.tu) (Int.toNat (d17.i))))), (Filler.dl (d17.tu)), (Filler.val (Value.int IntKind.i64 (d17.n))), (Filler.val (Value.int IntKind.i64 ((d17.i) + (1 : Int))))]) ∧ ((Nat.le (Nat.succ (q d22)) (q d17)) ∧ (J d22)))))) ∧ (((g.setok (g.set (d17.x) (kP (d17.tu) (Int.toNat (d17.i))) (ByteArray.mk (Array.mk [(110 : UInt8), (111 : UInt8)]))) (kP (d17.tu) (Int.toNat (d17.i))) (vP (d17.tu) (Int.toNat (d17.i)))) = false) → ((((-9223372036854775808 : Int) ≤ ((d17.i) + (1 : Int))) ∧ (((d17.i) + (1 : Int)) ≤ (9223372036854775807 : Int))) ∧ (∃ (d22 : OrB), (([(Filler.val (Value.int IntKind.i64 n)), (Filler.dl (g.pairs xs)), (Filler.dl (d22.x)), (Filler.dl (d22.tu)), (Filler.val (Value.int IntKind.i64 (d22.n))), (Filler.val (Value.int IntKind.i64 (d22.i)))] = [(Filler.val (Value.int IntKind.i64 n)), (Filler.dl (g.pairs xs)), (Filler.dl (g.set (g.set (d17.x) (kP (d17.tu) (Int.toNat (d17.i))) (ByteArray.mk (Array.mk [(110 : UInt8), (111 : UInt8)]))) (kP (d17.tu) (Int.toNat (d17.i))) (vP (d17.tu) (Int.toNat (d17.i))))), (Filler.dl (d17.tu)), (Filler.val (Value.int IntKind.i64 (d17.n))), (Filler.val (Value.int IntKind.i64 ((d17.i) + (1 : Int))))]) ∧ ((Nat.le (Nat.succ (q d22)) (q d17)) ∧ (J d22))))))))) ∧ (((g.setok (d17.x) (kP (d17.tu) (Int.toNat (d17.i))) (ByteArray.mk (Array.mk [(110 : UInt8), (111 : UInt8)]))) = false) → (((List.length (g.set (d17.x) (kP (d17.tu) (Int.toNat (d17.i))) (ByteArray.mk (Array.mk [(110 : UInt8), (111 : UInt8)])))) ≤ 1000000) ∧ ((((g.setok (g.set (d17.x) (kP (d17.tu) (Int.toNat (d17.i))) (ByteArray.mk (Array.mk [(110 : UInt8), (111 : UInt8)]))) (kP (d17.tu) (Int.toNat (d17.i))) (vP (d17.tu) (Int.toNat (d17.i)))) = true) → ((((-9223372036854775808 : Int) ≤ ((d17.i) + (1 : Int))) ∧ (((d17.i) + (1 : Int)) ≤ (9223372036854775807 : Int))) ∧ (∃ (d22 : OrB), (([(Filler.val (Value.int IntKind.i64 n)), (Filler.dl (g.pairs xs)), (Filler.dl (d22.x)), (Filler.dl (d22.tu)), (Filler.val (Value.int IntKind.i64 (d22.n))), (Filler.val (Value.int IntKind.i64 (d22.i)))] = [(Filler.val (Value.int IntKind.i64 n)), (Filler.dl (g.pairs xs)), (Filler.dl (g.set (g.set (d17.x) (kP (d17.tu) (Int.toNat (d17.i))) (ByteArray.mk (Array.mk [(110 : UInt8), (111 : UInt8)]))) (kP (d17.tu) (Int.toNat (d17.i))) (vP (d17.tu) (Int.toNat (d17.i))))), (Filler.dl (d17.tu)), (Filler.val (Value.int IntKind.i64 (d17.n))), (Filler.val (Value.int IntKind.i64 ((d17.i) + (1 : Int))))]) ∧ ((Nat.le (Nat.succ (q d22)) (q d17)) ∧ (J d22)))))) ∧ (((g.setok (g.set (d17.x) (kP (d17.tu) (Int.toNat (d17.i))) (ByteArray.mk (Array.mk [(110 : UInt8), (111 : UInt8)]))) (kP (d17.tu) (Int.toNat (d17.i))) (vP (d17.tu) (Int.toNat (d17.i)))) = false) → ((((-9223372036854775808 : Int) ≤ ((d17.i) + (1 : Int))) ∧ (((d17.i) + (1 : Int)) ≤ (9223372036854775807 : Int))) ∧ (∃ (d22 : OrB), (([(Filler.val (Value.int IntKind.i64 n)), (Filler.dl (g.pairs xs)), (Filler.dl (d22.x)), (Filler.dl (d22.tu)), (Filler.val (Value.int IntKind.i64 (d22.n))), (Filler.val (Value.int IntKind.i64 (d22.i)))] = [(Filler.val (Value.int IntKind.i64 n)), (Filler.dl (g.pairs xs)), (Filler.dl (g.set (g.set (d17.x) (kP (d17.tu) (Int.toNat (d17.i))) (ByteArray.mk (Array.mk [(110 : UInt8), (111 : UInt8)]))) (kP (d17.tu) (Int.toNat (d17.i))) (vP (d17.tu) (Int.toNat (d17.i))))), (Filler.dl (d17.tu)), (Filler.val (Value.int IntKind.i64 (d17.n))), (Filler.val (Value.int IntKind.i64 ((d17.i) + (1 : Int))))]) ∧ ((Nat.le (Nat.succ (q d22)) (q d17)) ∧ (J d22))))))))))))) ∧ (((decide ((d17.i) < (d17.n))) = false) → (((List.length (d17.x)) ≤ 1000000) ∧ ((((g.setok (d17.x) (ByteArray.mk (Array.mk [(109 : UInt8)])) (ByteArray.mk (Array.mk []))) = true) → (order_vc_L1 g xs n G w d17)) ∧ (((g.setok (d17.x) (ByteArray.mk (Array.mk [(109 : UInt8)])) (ByteArray.mk (Array.mk []))) = false) → (order_vc_L1 g xs n G w d17)))))))))))
def order_vc_L3 (g : KvF) (xs : List Value) (os : List Value) (n : Int) (I : OrA → Prop) (m : OrA → Nat) (J : OrB → Prop) (q : OrB → Nat) (G : OrC → Prop) (w : OrC → Nat) : Prop :=
  (∃ (d12 : OrA), (([(Filler.dl os), (Filler.val (Value.int IntKind.i64 n)), (Filler.dl (g.pairs xs)), (Filler.dl (d12.tu)), (Filler.val (Value.int IntKind.i64 (d12.i)))] = [(Filler.dl os), (Filler.val (Value.int IntKind.i64 n)), (Filler.dl (g.pairs xs)), (Filler.dl (g.pairs xs)), (Filler.val (Value.int IntKind.i64 (0 : Int)))]) ∧ ((I d12) ∧ (∀ (d13 : OrA), ((I d13) → ((((decide ((d13.i) < ((List.length os) : Int))) = true) → ((((decide ((1 : Int) < ((List.length (d13.tu)) : Int))) = true) → ((((0 : Int) ≤ (d13.i)) ∧ ((d13.i) < ((List.length os) : Int))) ∧ ((((-9223372036854775808 : Int) ≤ (((List.length (d13.tu)) : Int) - (1 : Int))) ∧ ((((List.length (d13.tu)) : Int) - (1 : Int)) ≤ (9223372036854775807 : Int))) ∧ (((((-9223372036854775808 : Int) ≤ (eI os (Int.toNat (d13.i)))) ∧ ((eI os (Int.toNat (d13.i))) ≤ (9223372036854775807 : Int))) ∧ (((-1000000000000 : Int) ≤ (0 : Int)) ∧ (((0 : Int) ≤ (((List.length (d13.tu)) : Int) - (1 : Int))) ∧ ((((List.length (d13.tu)) : Int) - (1 : Int)) ≤ (2000000000000 : Int))))) ∧ ((((0 : Int) ≤ (g.wi (eI os (Int.toNat (d13.i))) (0 : Int) (((List.length (d13.tu)) : Int) - (1 : Int)))) ∧ ((g.wi (eI os (Int.toNat (d13.i))) (0 : Int) (((List.length (d13.tu)) : Int) - (1 : Int))) < ((List.length (d13.tu)) : Int))) ∧ ((((List.length [(Value.agg (Array.mk [(Value.string (kP (d13.tu) (Int.toNat (g.wi (eI os (Int.toNat (d13.i))) (0 : Int) (((List.length (d13.tu)) : Int) - (1 : Int)))))), (Value.string (vP (d13.tu) (Int.toNat (g.wi (eI os (Int.toNat (d13.i))) (0 : Int) (((List.length (d13.tu)) : Int) - (1 : Int))))))]))]) * 32) ≤ 140737488355328) ∧ (((((0 : Int) ≤ (g.wi (eI os (Int.toNat (d13.i))) (0 : Int) (((List.length (d13.tu)) : Int) - (1 : Int)))) ∧ ((g.wi (eI os (Int.toNat (d13.i))) (0 : Int) (((List.length (d13.tu)) : Int) - (1 : Int))) ≤ ((List.length (d13.tu)) : Int))) ∧ True) ∧ ((((List.length ([(Value.agg (Array.mk [(Value.string (kP (d13.tu) (Int.toNat (g.wi (eI os (Int.toNat (d13.i))) (0 : Int) (((List.length (d13.tu)) : Int) - (1 : Int)))))), (Value.string (vP (d13.tu) (Int.toNat (g.wi (eI os (Int.toNat (d13.i))) (0 : Int) (((List.length (d13.tu)) : Int) - (1 : Int))))))]))] ++ (List.take ((Int.toNat (g.wi (eI os (Int.toNat (d13.i))) (0 : Int) (((List.length (d13.tu)) : Int) - (1 : Int)))) - 0) (List.drop 0 (d13.tu))))) * 32) ≤ 140737488355328) ∧ ((((-9223372036854775808 : Int) ≤ ((g.wi (eI os (Int.toNat (d13.i))) (0 : Int) (((List.length (d13.tu)) : Int) - (1 : Int))) + (1 : Int))) ∧ (((g.wi (eI os (Int.toNat (d13.i))) (0 : Int) (((List.length (d13.tu)) : Int) - (1 : Int))) + (1 : Int)) ≤ (9223372036854775807 : Int))) ∧ ((True ∧ (((0 : Int) ≤ ((g.wi (eI os (Int.toNat (d13.i))) (0 : Int) (((List.length (d13.tu)) : Int) - (1 : Int))) + (1 : Int))) ∧ (((g.wi (eI os (Int.toNat (d13.i))) (0 : Int) (((List.length (d13.tu)) : Int) - (1 : Int))) + (1 : Int)) ≤ ((List.length (d13.tu)) : Int)))) ∧ ((((List.length (([(Value.agg (Array.mk [(Value.string (kP (d13.tu) (Int.toNat (g.wi (eI os (Int.toNat (d13.i))) (0 : Int) (((List.length (d13.tu)) : Int) - (1 : Int)))))), (Value.string (vP (d13.tu) (Int.toNat (g.wi (eI os (Int.toNat (d13.i))) (0 : Int) (((List.length (d13.tu)) : Int) - (1 : Int))))))]))] ++ (List.take ((Int.toNat (g.wi (eI os (Int.toNat (d13.i))) (0 : Int) (((List.length (d13.tu)) : Int) - (1 : Int)))) - 0) (List.drop 0 (d13.tu)))) ++ (List.take ((List.length (d13.tu)) - (Int.toNat ((g.wi (eI os (Int.toNat (d13.i))) (0 : Int) (((List.length (d13.tu)) : Int) - (1 : Int))) + (1 : Int)))) (List.drop (Int.toNat ((g.wi (eI os (Int.toNat (d13.i))) (0 : Int) (((List.length (d13.tu)) : Int) - (1 : Int))) + (1 : Int))) (d13.tu))))) * 32) ≤ 140737488355328) ∧ ((((-9223372036854775808 : Int) ≤ ((d13.i) + (1 : Int))) ∧ (((d13.i) + (1 : Int)) ≤ (9223372036854775807 : Int))) ∧ (∃ (d17 : OrA), (([(Filler.dl os), (Filler.val (Value.int IntKind.i64 n)), (Filler.dl (g.pairs xs)), (Filler.dl (d17.tu)), (Filler.val (Value.int IntKind.i64 (d17.i)))] = [(Filler.dl os), (Filler.val (Value.int IntKind.i64 n)), (Filler.dl (g.pairs xs)), (Filler.dl (([(Value.agg (Array.mk [(Value.string (kP (d13.tu) (Int.toNat (g.wi (eI os (Int.toNat (d13.i))) (0 : Int) (((List.length (d13.tu)) : Int) - (1 : Int)))))), (Value.string (vP (d13.tu) (Int.toNat (g.wi (eI os (Int.toNat (d13.i))) (0 : Int) (((List.length (d13.tu)) : Int) - (1 : Int))))))]))] ++ (List.take ((Int.toNat (g.wi (eI os (Int.toNat (d13.i))) (0 : Int) (((List.length (d13.tu)) : Int) - (1 : Int)))) - 0) (List.drop 0 (d13.tu)))) ++ (List.take ((List.length (d13.tu)) - (Int.toNat ((g.wi (eI os (Int.toNat (d13.i))) (0 : Int) (((List.length (d13.tu)) : Int) - (1 : Int))) + (1 : Int)))) (List.drop (Int.toNat ((g.wi (eI os (Int.toNat (d13.i))) (0 : Int) (((List.length (d13.tu)) : Int) - (1 : Int))) + (1 : Int))) (d13.tu))))), (Filler.val (Value.int IntKind.i64 ((d13.i) + (1 : Int))))]) ∧ ((Nat.le (Nat.succ (m d17)) (m d13)) ∧ (I d17)))))))))))))))) ∧ (((decide ((1 : Int) < ((List.length (d13.tu)) : Int))) = false) → (order_vc_L2 g xs n J q G w d13)))) ∧ (((decide ((d13.i) < ((List.length os) : Int))) = false) → (order_vc_L2 g xs n J q G w d13))))))))
set_option maxRecDepth 100000 in
theorem order_vc (g : KvF) (xs os : List Value) (n : Int) (I : OrA → Prop) (m : OrA → Nat) (J : OrB → Prop) (q : OrB → Nat) (G : OrC → Prop) (w : OrC → Nat) : runP std (orderCon std g) 90 (orderLs os (g.pairs xs) n I m J q G w) orderP 4 Try.f4 (xs, os, n, ()) =
  ((∀ (i12 : Nat), ((i12 < (List.length xs)) → (((-9223372036854775808 : Int) ≤ (eI xs i12)) ∧ ((eI xs i12) ≤ (9223372036854775807 : Int))))) ∧ ((((List.length (g.pairs xs)) * 32) ≤ 140737488355328) ∧ (order_vc_L3 g xs os n I m J q G w))) := by kernel_rfl
end Go.Proofs.Ytolkoacllaaceaa
end
section
namespace Go.Proofs.Ytolkoacllaaceaa
open Go.RowKit Go.Abs Go
/-- Ordered rows of the same pairs are the same. -/
theorem ord_ext : ∀ {l m : List Value}, Ord l → Ord m → (∀ x, x ∈ l ↔ x ∈ m) → l = m
  | [], [], _, _, _ => rfl
  | [], b :: m, _, _, h => by have := (h b).2 (List.mem_cons_self ..); cases this
  | a :: l, [], _, _, h => by have := (h a).1 (List.mem_cons_self ..); cases this
  | a :: l, b :: m, h1, h2, h => by
    obtain ⟨a1, o1⟩ := List.pairwise_cons.1 h1
    obtain ⟨a2, o2⟩ := List.pairwise_cons.1 h2
    have e : a = b := by
      rcases List.mem_cons.1 ((h a).1 (List.mem_cons_self ..)) with e | ha
      · exact e
      · rcases List.mem_cons.1 ((h b).2 (List.mem_cons_self ..)) with e | hb
        · exact e.symm
        · have := lt_trans (a1 b hb) (a2 a ha)
          rw [lt_irrefl] at this; cases this
    subst e
    rw [ord_ext o1 o2 fun x => ⟨fun hx => ?_, fun hx => ?_⟩]
    · rcases List.mem_cons.1 ((h x).1 (List.mem_cons_of_mem _ hx)) with e | hm
      · subst e; have := a1 x hx; rw [lt_irrefl] at this; cases this
      · exact hm
    · rcases List.mem_cons.1 ((h x).2 (List.mem_cons_of_mem _ hx)) with e | hm
      · subst e; have := a2 x hx; rw [lt_irrefl] at this; cases this
      · exact hm
/-- What is in a row that was set. -/
theorem rset_mem {l : List Value} (ho : Ord l) (k v : ByteArray) : (∀ y, y ∈ rsetF l k v ↔ y = prV k v ∨ y ∈ l ∧ keyV y ≠ k) ∧
    (((∃ x ∈ l, keyV x = k) ∧ (rsetF l k v).length = l.length ∧ fdF l k = true) ∨ ((∀ x ∈ l, keyV x ≠ k) ∧ (rsetF l k v).length = l.length + 1 ∧ fdF l k = false)) := by
  obtain ⟨r, hr, hle, h1, h2, h3⟩ := split_at k ho
  rw [fd_eq k ho]
  unfold rsetF putF
  rw [hr, Int.toNat_natCast]
  rw [hr, Int.toNat_natCast] at h2 h3
  have ne1 : ∀ x ∈ l.take r, keyV x ≠ k := fun x hx e => by have := h1 x hx; rw [e, lt_irrefl] at this; cases this
  have hl : ∀ y, y ∈ l ↔ y ∈ l.take r ∨ y ∈ l.drop r := fun y => by
    have := List.take_append_drop r l
    rw [← List.mem_append, this]
  cases hc : (decide ((r : Int) < (l.length : Int)) && eqB (kP l r) k) with
  | true =>
    obtain ⟨hlt, h4, h5⟩ := h3 hc
    have ne2 : ∀ x ∈ l.drop (r + 1), keyV x ≠ k := fun x hx e => by have := h5 x hx; rw [e, lt_irrefl] at this; cases this
    have hd : l.drop r = l[r] :: l.drop (r + 1) := List.drop_eq_getElem_cons hlt
    rw [if_pos rfl]
    refine ⟨fun y => ?_, .inl ⟨⟨l[r], List.getElem_mem hlt, h4⟩, ?_, rfl⟩⟩
    · rw [hl y, hd]
      simp only [List.mem_append, List.mem_cons, List.not_mem_nil, or_false]
      constructor
      · rintro ((h | h) | h)
        · exact .inr ⟨.inl h, ne1 y h⟩
        · exact .inl h
        · exact .inr ⟨.inr (.inr h), ne2 y h⟩
      · rintro (h | ⟨h | h | h, hk⟩)
        · exact .inl (.inr h)
        · exact .inl (.inl h)
        · rw [h] at hk; exact absurd h4 hk
        · exact .inr h
    · simp only [List.length_append, List.length_take, List.length_drop, List.length_cons, List.length_nil]; omega
  | false =>
    have ne2 : ∀ x ∈ l.drop r, keyV x ≠ k := fun x hx e => by have := h2 hc x hx; rw [e, lt_irrefl] at this; cases this
    rw [if_neg Bool.false_ne_true]
    refine ⟨fun y => ?_, .inr ⟨fun x hx => ?_, ?_, rfl⟩⟩
    · rw [hl y]
      simp only [List.mem_append, List.mem_cons, List.not_mem_nil, or_false]
      constructor
      · rintro ((h | h) | h)
        · exact .inr ⟨.inl h, ne1 y h⟩
        · exact .inl h
        · exact .inr ⟨.inr h, ne2 y h⟩
      · rintro (h | ⟨h | h, hk⟩)
        · exact .inl (.inr h)
        · exact .inl (.inl h)
        · exact .inr h
    · rcases (hl x).1 hx with h | h
      · exact ne1 x h
      · exact ne2 x h
    · simp only [List.length_append, List.length_take, List.length_drop, List.length_cons, List.length_nil]; omega
theorem set_mem {l : List Value} (h : RightL l) {k v : ByteArray} (hm : mayF k v = true) (hroom : l.length < 30 ∨ ∃ x ∈ l, keyV x = k) : RightL (setF l k v) ∧ (∀ y, y ∈ setF l k v ↔ y = prV k v ∨ y ∈ l ∧ keyV y ≠ k) ∧
    (((∃ x ∈ l, keyV x = k) ∧ (setF l k v).length = l.length) ∨ ((∀ x ∈ l, keyV x ≠ k) ∧ (setF l k v).length = l.length + 1)) := by
  have ho := ((right_iff l).1 h.1).2.1
  obtain ⟨h1, h2⟩ := rset_mem ho k v
  have hok : setokF l k v = true := by
    unfold setokF
    rw [hm, Bool.true_and, Bool.or_eq_true]
    rcases hroom with hr | ⟨x, hx, he⟩
    · right; rw [decide_eq_true_eq]; omega
    · left
      rcases h2 with ⟨_, _, h3⟩ | ⟨h3, _⟩
      · exact h3
      · exact absurd he (h3 x hx)
  obtain ⟨e, hr⟩ := set_rset h hok
  rw [e]
  exact ⟨hr, h1, h2.imp (fun h => ⟨h.1, h.2.1⟩) fun h => ⟨h.1, h.2.1⟩⟩
def mB : ByteArray := ⟨#[109]⟩
def noW : ByteArray := ⟨#[110, 111]⟩
def newW : ByteArray := ⟨#[110, 101, 119]⟩
/-- The pairs of a step of KvOrder's second loop. -/
theorem two_sets {l : List Value} (h : RightL l) {k v : ByteArray} (hm : mayF k v = true) (hroom : l.length < 30) (hn : ∀ x ∈ l, keyV x ≠ k) :
    RightL (setF (setF l k noW) k v) ∧ (setF l k noW).length ≤ 30 ∧ (setF (setF l k noW) k v).length = l.length + 1 ∧ ∀ y, y ∈ setF (setF l k noW) k v ↔ y ∈ l ∨ y = prV k v := by
  have hm1 : mayF k noW = true := by
    unfold mayF at hm ⊢
    simp only [Bool.and_eq_true] at hm ⊢
    exact ⟨hm.1, hm.2.1, rfl⟩
  obtain ⟨r1, m1, l1⟩ := set_mem h hm1 (.inl hroom)
  have hlen1 : (setF l k noW).length = l.length + 1 := by
    rcases l1 with ⟨⟨x, hx, he⟩, _⟩ | ⟨_, h2⟩
    · exact absurd he (hn x hx)
    · exact h2
  have hin : prV k noW ∈ setF l k noW := (m1 _).2 (.inl rfl)
  obtain ⟨r2, m2, l2⟩ := set_mem r1 hm (.inr ⟨_, hin, rfl⟩)
  refine ⟨r2, by omega, ?_, fun y => ?_⟩
  · rcases l2 with ⟨_, h2⟩ | ⟨h2, _⟩
    · omega
    · exact absurd rfl (h2 _ hin)
  · rw [m2 y, m1 y]
    constructor
    · rintro (h | ⟨h | h, hk⟩)
      · exact .inr h
      · rw [h] at hk; exact absurd rfl hk
      · exact .inl h.1
    · rintro (h | h)
      · exact .inr ⟨.inr ⟨h, hn y h⟩, hn y h⟩
      · exact .inl h
/-- Set and taken out: as if it had never been. -/
theorem set_del {l : List Value} (h : RightL l) (hroom : l.length < 30) (hn : ∀ x ∈ l, keyV x ≠ mB) : (setF l mB noB).length ≤ 30 ∧ (dropF (setF l mB noB) mB).length ≤ 30 ∧ dropF (setF l mB noB) mB = l := by
  obtain ⟨r1, m1, _⟩ := set_mem (k := mB) (v := noB) h rfl (.inl hroom)
  have ho := ((right_iff _).1 r1.1).2
  have e : dropF (setF l mB noB) mB = l := by
    rw [drop_rdel mB r1.2 ho.1, rdel_eq mB r1.2]
    refine ord_ext (ho.1.filter _) ((right_iff l).1 h.1).2.1 fun x => ?_
    rw [List.mem_filter, m1 x]
    constructor
    · rintro ⟨h1 | h1, h2⟩
      · rw [h1] at h2; cases h2
      · exact h1.1
    · intro hx
      refine ⟨.inr ⟨hx, hn x hx⟩, ?_⟩
      cases c : eqB (keyV x) mB with
      | false => rfl
      | true => exact absurd (eqB_iff.1 c) (hn x hx)
  exact ⟨ho.2, by rw [e]; omega, e⟩
/-- Thirty keys, and no more. -/
def keyN (i : Int) : ByteArray := ⟨#[107]⟩ ++ std.sof (std.ints [.int .u8 (std.wrap .u8 (97 + std.quo i 26)), .int .u8 (std.wrap .u8 (97 + std.rem i 26))])
def fullL : Nat → List Value
  | 0 => []
  | i + 1 => setF (fullL i) (keyN i) noB
theorem full_ok : ∀ i, i < 32 → setokF (fullL i) (keyN i) noB = decide (i < 30) ∧ (fullL i).length ≤ 30 ∧ std.slen (std.sof (std.ints [Value.int .u8 (std.wrap .u8 (97 + std.quo i 26)), Value.int .u8 (std.wrap .u8 (97 + std.rem i 26))])) ≤ 100 := by decide +kernel
theorem full_len : (fullL 32).length = 30 ∧ rightF mayF (fullL 32) = true := by decide +kernel
theorem full_new : ∀ k, k < 30 → setokF (fullL 32) (kP (fullL 32) k) newW = true ∧ (setF (fullL 32) (kP (fullL 32) k) newW).length = 30 := by decide +kernel
theorem pairs_keys (xs : List Value) : (pairsF xs).length ≤ 12 ∧ ∀ x ∈ pairsF xs, keyV x ≠ mB := by
  refine ⟨outL_len _ 12, fun x hx => ?_⟩
  obtain ⟨j, s, h1, rfl, _⟩ := out_mem (es_vals xs _) hx
  have : ∀ j, j < 12 → eqB (eS keysV j) mB = false := by decide +kernel
  intro e
  have h2 := this j h1
  rw [show eS keysV j = mB from e, eqB_iff.2 rfl] at h2
  cases h2
/-- A row turned. -/
theorem turn_perm {l : List Value} (hw : Wf l) {k : Nat} (hk : k < l.length) : (([prV (kP l k) (vP l k)] ++ List.take (k - 0) (List.drop 0 l)) ++ List.take (l.length - (k + 1)) (List.drop (k + 1) l)).Perm l := by
  have e : prV (kP l k) (vP l k) = l[k] := by rw [kP_get hk, vP_get hk]; exact (hw _ (List.getElem_mem hk)).symm
  rw [e, Nat.sub_zero, List.drop_zero, take_rest]
  have h2 : l = l.take k ++ l[k] :: l.drop (k + 1) := by
    rw [← List.drop_eq_getElem_cons hk, List.take_append_drop]
  conv => rhs; rw [h2]
  exact (List.perm_middle (a := l[k]) (l₁ := l.take k) (l₂ := l.drop (k + 1))).symm
end Go.Proofs.Ytolkoacllaaceaa
end
section
namespace Go.Proofs.Ytolkoacllaaceaa
open Go.RowKit Go.Abs Go
set_option maxHeartbeats 1000000 in
theorem clone_none (n c : Nat) (w : World) : Calls Try.prog 28 #[.slice none n c] w fun e w' => e = .returned (.slice none 0 0) ∧ w' = w := by
  have q22 : ∀ (w : World) (a : Option Addr) (n c n' c' : Nat), (binOp .eql 22 (.slice a n c) (.slice none n' c')).run Try.prog w = .ok (.bool a.isNone) w := fun w a n c n' c' => Lib.run_eql_slice_nil w _ _ a n c n' c' Try.underlying22
  go_enter Try.func28, Try.ntmps28
  go_wp2
  go_ret
  exact ⟨rfl, rfl⟩
/-- Nothing appended to an empty literal. -/
theorem app_nothing (w : World) (b : Addr) (ty : TypeId) (a : Option Addr) (c : Nat) : (Builtin.append_ #[22, 22] ty #[.slice (some b) 0 0, .slice a 0 c]).run Try.prog w = .ok (.slice (some b) 0 0) w := by
  have i1 : ((Try.prog.info? 26).bind fun i => i.zero) = some zP := by kernel_rfl
  have i2 : ((Try.prog.info? 26).map fun i => (i.size, i.bytes)) = some (2, 32) := by kernel_rfl
  cases hi : Try.prog.info? 26 with
  | none => rw [hi] at i2; cases i2
  | some i0 =>
    rw [hi] at i1 i2
    simp only [Option.bind_some, Option.map_some, Option.some.injEq, Prod.mk.injEq] at i1 i2
    have fc : ∀ w : World, (Builtin.firstCells i0.size 0 (.slice a 0 c)).run Try.prog w = .ok #[] w := fun w => by
      cases a with
      | none => exact run_firstCells_none w i0.size 0 0 c
      | some a => exact run_firstCells_some w i0.size 0 a 0 c [] (by simp) (fun j v hj => by simp at hj)
    obtain ⟨h1, _⟩ := append_run (P := Try.prog) (w := w) (argTypes := #[22, 22]) (ty := ty) (st := 22) (xt := 22) (e := 26) (args := #[.slice (some b) 0 0, .slice a 0 c]) (bs := some b) (sLen := 0) (sCap := 0) (m := 0) (x := .slice a 0 c) (i := i0) (z := zP) (news := #[])
      rfl rfl rfl rfl Try.underlying22 hi i1 (by rw [i2.1]; rfl) (by omega) (by omega) ⟨.inr ⟨.inr ⟨_, Try.underlying22⟩, fun w0 => rfl, fc w, fc w.drew⟩⟩
    rw [h1 (Nat.le_refl _)]
    rfl
set_option maxHeartbeats 1000000 in
theorem clone_some (a : Addr) (c : Nat) (w : World) : Calls Try.prog 28 #[.slice (some a) 0 c] w fun e w' => e = .returned (.slice (some ⟨w.heap.size, 0, none⟩) 0 0) ∧ Below w.heap.size w w' ∧ w.heap.size ≤ w'.heap.size := by
  have q22 : ∀ (w : World) (a : Option Addr) (n c n' c' : Nat), (binOp .eql 22 (.slice a n c) (.slice none n' c')).run Try.prog w = .ok (.bool a.isNone) w := fun w a n c n' c' => Lib.run_eql_slice_nil w _ _ a n c n' c' Try.underlying22
  go_enter Try.func28, Try.ntmps28
  go_wp2_with (at_builtin; refine Lib.wpList_append_run_sl _ rfl _ _ _ rfl _ _ rfl rfl (app_nothing _ _ _ _ _) ?_)
  go_wp2
  go_ret
  exact ⟨rfl, (Below.refl _ w).alloc (Nat.le_refl _) _, by simp⟩
theorem clone_ok : PFOk Try.prog 28 (cloneP std) := by
  refine ⟨fun {zf base w} hbase hz0 {d} hpre {xs} hraw {args'} hl => ?_⟩
  obtain ⟨ys, u⟩ := d
  by_cases hy : ys = []
  · subst hy
    have hx : xs = [dsl zP []] := by
      have e : rawVs deep0 (cloneP std).zs ((cloneP std).args (([] : List Value), ())) = some [dsl zP []] := rfl
      rw [show rawVs deep0 (cloneP std).zs ((cloneP std).args (([] : List Value), u)) = some [dsl zP []] from e] at hraw
      exact (Option.some.inj hraw).symm
    subst hx
    obtain ⟨v, l, e, r, hl⟩ := hl.inv_cons
    have := hl.inv_nil; subst this
    have hv : ∃ a k, v = .slice a 0 k := by
      rcases r with ⟨_, r⟩ | ⟨_, _, e, _⟩
      · rcases r.inv with ⟨_, a, k, e⟩ | ⟨c, o, k, val, e, _⟩
        · exact ⟨a, k, e⟩
        · exact ⟨_, _, e⟩
      · simp [dsl] at e
    obtain ⟨a, k, rfl⟩ := hv
    have : args' = #[.slice a 0 k] := Array.toList_inj.1 e
    subst this
    obtain ⟨c, hb⟩ : ∃ c, Try.f28.body = some c := ⟨_, rfl⟩
    have hn := Try.progOk.name Try.func28
    refine .inr ⟨by simp [callFunc, Try.func28, hn, hb], ?_⟩
    have fin : ∀ {a' : Option Addr} {w' : World}, Below w.heap.size w w' → ∃ v', Ending.returned (.slice a' 0 0) = .returned v' ∧ ∃ z2 tk, POut zf base w (cloneP std) (([] : List Value), u) v' w' z2 tk := fun {a' w'} hbl => by
      refine ⟨_, rfl, zf, none, hbl, fun _ _ _ h => h, fun _ _ _ h => .inl h, fun c i a h => ?_, fun {μ b} hz ht => ?_, fun _ b => rfl, fun p h => by cases h⟩
      · obtain ⟨arr', e', fr', h2, h3⟩ := hz0 c i a h
        exact ⟨arr', e', fr', (hbl.block c (Array.getElem?_eq_some_iff.1 h2).1).trans h2, h3⟩
      · show VR μ (osl zP [] b) _
        exact .zero (.osl .nil rfl (.inl rfl))
    cases a with
    | none =>
      refine (clone_none 0 k w).mono ?_
      rintro en w' ⟨rfl, rfl⟩
      exact fin (Below.refl _ _)
    | some a =>
      refine (clone_some a k w).mono ?_
      rintro en w' ⟨rfl, hbl, _⟩
      exact fin hbl
  · exact pf_out (LS := noL) Try.progOk (noCon_ok _) (inCallF_ok 60) (cloneP std) Try.func28 (show _ = some (bodyS Try.prog 28) by kernel_rfl) (n := 40) (clone_run ys hy hpre) hbase hz0 hraw hl
theorem rngCon_ok : ConOk Try.prog (rngCon std kvF) := conL_ok fun x hx => by
  simp only [List.mem_cons, List.not_mem_nil, or_false] at hx
  rcases hx with rfl | rfl
  · exact pcon_ok bs_ok
  · exact pcon_ok clone_ok
theorem rng_ok : PFOk Try.prog 8 (rngP std kvF) :=
  pf_ok (LS := fun _ => noL) Try.progOk rngCon_ok (inCallF_ok 60) (rngP std kvF) Try.func8 (show _ = some (bodyS Try.prog 8) by kernel_rfl) fun d hd => rng_run d.1 d.2.1 d.2.2.1 hd
end Go.Proofs.Ytolkoacllaaceaa
end
section
namespace Go.Abs
open Go Go.ChangeShapes Go.WideShapes Go.RowKit

section
variable {H : Type} {enc : TypeId × Value → H} {P : Program} {w : World} {base : Nat} {spare : Nat → Bool} {held : Bool}
theorem trodAll_one' {t0 : TypeId} {args : Array Value} {ds : List (DataW H)} {ps : List MemPlace} (h : DataW.TrodAll enc P w base spare held [t0] args.toList ds ps) :
    ∃ v0 d0 p0, args = #[v0] ∧ ds = [d0] ∧ ps = p0 ++ [] ∧ DataW.Trod enc P w base spare held t0 v0 d0 p0 := by
  obtain ⟨v0, r0, d0, s0, p0, q0, e0, rfl, rfl, g0, k0⟩ := trodAll_cons h
  obtain ⟨rfl, rfl, rfl⟩ := trodAll_nil k0
  exact ⟨v0, d0, p0, Array.toList_inj.1 e0, rfl, rfl, g0⟩
theorem trodAll_two' {t0 t1 : TypeId} {args : Array Value} {ds : List (DataW H)} {ps : List MemPlace} (h : DataW.TrodAll enc P w base spare held [t0, t1] args.toList ds ps) :
    ∃ v0 v1 d0 d1 p0 p1, args = #[v0, v1] ∧ ds = [d0, d1] ∧ ps = p0 ++ p1 ++ [] ∧ DataW.Trod enc P w base spare held t0 v0 d0 p0 ∧ DataW.Trod enc P w base spare held t1 v1 d1 p1 := by
  obtain ⟨v0, r0, d0, s0, p0, q0, e0, rfl, rfl, g0, k0⟩ := trodAll_cons h
  obtain ⟨v1, r1, d1, s1, p1, q1, rfl, rfl, rfl, g1, k1⟩ := trodAll_cons k0
  obtain ⟨rfl, rfl, rfl⟩ := trodAll_nil k1
  exact ⟨v0, v1, d0, d1, p0, p1, Array.toList_inj.1 e0, rfl, by simp only [List.append_assoc], g0, g1⟩
theorem trodAll_three' {t0 t1 t2 : TypeId} {args : Array Value} {ds : List (DataW H)} {ps : List MemPlace} (h : DataW.TrodAll enc P w base spare held [t0, t1, t2] args.toList ds ps) :
    ∃ v0 v1 v2 d0 d1 d2 p0 p1 p2, args = #[v0, v1, v2] ∧ ds = [d0, d1, d2] ∧ ps = p0 ++ p1 ++ p2 ++ [] ∧ DataW.Trod enc P w base spare held t0 v0 d0 p0 ∧ DataW.Trod enc P w base spare held t1 v1 d1 p1 ∧ DataW.Trod enc P w base spare held t2 v2 d2 p2 := by
  obtain ⟨v0, r0, d0, s0, p0, q0, e0, rfl, rfl, g0, k0⟩ := trodAll_cons h
  obtain ⟨v1, r1, d1, s1, p1, q1, rfl, rfl, rfl, g1, k1⟩ := trodAll_cons k0
  obtain ⟨v2, r2, d2, s2, p2, q2, rfl, rfl, rfl, g2, k2⟩ := trodAll_cons k1
  obtain ⟨rfl, rfl, rfl⟩ := trodAll_nil k2
  exact ⟨v0, v1, v2, d0, d1, d2, p0, p1, p2, Array.toList_inj.1 e0, rfl, by simp only [List.append_assoc], g0, g1, g2⟩
theorem trodAll_four' {t0 t1 t2 t3 : TypeId} {args : Array Value} {ds : List (DataW H)} {ps : List MemPlace} (h : DataW.TrodAll enc P w base spare held [t0, t1, t2, t3] args.toList ds ps) :
    ∃ v0 v1 v2 v3 d0 d1 d2 d3 p0 p1 p2 p3, args = #[v0, v1, v2, v3] ∧ ds = [d0, d1, d2, d3] ∧ ps = p0 ++ p1 ++ p2 ++ p3 ++ [] ∧ DataW.Trod enc P w base spare held t0 v0 d0 p0 ∧ DataW.Trod enc P w base spare held t1 v1 d1 p1 ∧ DataW.Trod enc P w base spare held t2 v2 d2 p2 ∧ DataW.Trod enc P w base spare held t3 v3 d3 p3 := by
  obtain ⟨v0, r0, d0, s0, p0, q0, e0, rfl, rfl, g0, k0⟩ := trodAll_cons h
  obtain ⟨v1, r1, d1, s1, p1, q1, rfl, rfl, rfl, g1, k1⟩ := trodAll_cons k0
  obtain ⟨v2, r2, d2, s2, p2, q2, rfl, rfl, rfl, g2, k2⟩ := trodAll_cons k1
  obtain ⟨v3, r3, d3, s3, p3, q3, rfl, rfl, rfl, g3, k3⟩ := trodAll_cons k2
  obtain ⟨rfl, rfl, rfl⟩ := trodAll_nil k3
  exact ⟨v0, v1, v2, v3, d0, d1, d2, d3, p0, p1, p2, p3, Array.toList_inj.1 e0, rfl, by simp only [List.append_assoc], g0, g1, g2, g3⟩
theorem trodAll_five' {t0 t1 t2 t3 t4 : TypeId} {args : Array Value} {ds : List (DataW H)} {ps : List MemPlace} (h : DataW.TrodAll enc P w base spare held [t0, t1, t2, t3, t4] args.toList ds ps) :
    ∃ v0 v1 v2 v3 v4 d0 d1 d2 d3 d4 p0 p1 p2 p3 p4, args = #[v0, v1, v2, v3, v4] ∧ ds = [d0, d1, d2, d3, d4] ∧ ps = p0 ++ p1 ++ p2 ++ p3 ++ p4 ++ [] ∧ DataW.Trod enc P w base spare held t0 v0 d0 p0 ∧ DataW.Trod enc P w base spare held t1 v1 d1 p1 ∧ DataW.Trod enc P w base spare held t2 v2 d2 p2 ∧ DataW.Trod enc P w base spare held t3 v3 d3 p3 ∧ DataW.Trod enc P w base spare held t4 v4 d4 p4 := by
  obtain ⟨v0, r0, d0, s0, p0, q0, e0, rfl, rfl, g0, k0⟩ := trodAll_cons h
  obtain ⟨v1, r1, d1, s1, p1, q1, rfl, rfl, rfl, g1, k1⟩ := trodAll_cons k0
  obtain ⟨v2, r2, d2, s2, p2, q2, rfl, rfl, rfl, g2, k2⟩ := trodAll_cons k1
  obtain ⟨v3, r3, d3, s3, p3, q3, rfl, rfl, rfl, g3, k3⟩ := trodAll_cons k2
  obtain ⟨v4, r4, d4, s4, p4, q4, rfl, rfl, rfl, g4, k4⟩ := trodAll_cons k3
  obtain ⟨rfl, rfl, rfl⟩ := trodAll_nil k4
  exact ⟨v0, v1, v2, v3, v4, d0, d1, d2, d3, d4, p0, p1, p2, p3, p4, Array.toList_inj.1 e0, rfl, by simp only [List.append_assoc], g0, g1, g2, g3, g4⟩
theorem trodAll_six' {t0 t1 t2 t3 t4 t5 : TypeId} {args : Array Value} {ds : List (DataW H)} {ps : List MemPlace} (h : DataW.TrodAll enc P w base spare held [t0, t1, t2, t3, t4, t5] args.toList ds ps) :
    ∃ v0 v1 v2 v3 v4 v5 d0 d1 d2 d3 d4 d5 p0 p1 p2 p3 p4 p5, args = #[v0, v1, v2, v3, v4, v5] ∧ ds = [d0, d1, d2, d3, d4, d5] ∧ ps = p0 ++ p1 ++ p2 ++ p3 ++ p4 ++ p5 ++ [] ∧ DataW.Trod enc P w base spare held t0 v0 d0 p0 ∧ DataW.Trod enc P w base spare held t1 v1 d1 p1 ∧ DataW.Trod enc P w base spare held t2 v2 d2 p2 ∧ DataW.Trod enc P w base spare held t3 v3 d3 p3 ∧ DataW.Trod enc P w base spare held t4 v4 d4 p4 ∧ DataW.Trod enc P w base spare held t5 v5 d5 p5 := by
  obtain ⟨v0, r0, d0, s0, p0, q0, e0, rfl, rfl, g0, k0⟩ := trodAll_cons h
  obtain ⟨v1, r1, d1, s1, p1, q1, rfl, rfl, rfl, g1, k1⟩ := trodAll_cons k0
  obtain ⟨v2, r2, d2, s2, p2, q2, rfl, rfl, rfl, g2, k2⟩ := trodAll_cons k1
  obtain ⟨v3, r3, d3, s3, p3, q3, rfl, rfl, rfl, g3, k3⟩ := trodAll_cons k2
  obtain ⟨v4, r4, d4, s4, p4, q4, rfl, rfl, rfl, g4, k4⟩ := trodAll_cons k3
  obtain ⟨v5, r5, d5, s5, p5, q5, rfl, rfl, rfl, g5, k5⟩ := trodAll_cons k4
  obtain ⟨rfl, rfl, rfl⟩ := trodAll_nil k5
  exact ⟨v0, v1, v2, v3, v4, v5, d0, d1, d2, d3, d4, d5, p0, p1, p2, p3, p4, p5, Array.toList_inj.1 e0, rfl, by simp only [List.append_assoc], g0, g1, g2, g3, g4, g5⟩
end
/-- A slice that came in. -/
def SlIn (w : World) (z v : Value) : Prop := ∃ xs, xs.length ≤ maxLen ∧ (∀ x ∈ xs, RawOk z x) ∧ DRa (zW w) (dsl z xs) v
/-- Numbers that came in. -/
theorem ints_ok {k : IntKind} {n : Int} {xs : List Value} (h : ∀ x ∈ xs, RawOk (.int k n) x) : ∀ (i : Nat) d, i < xs.length → ∃ m, xs.getD i d = .int k m ∧ (Lit.int k m).wf = true := by
  intro i d hi
  rw [List.getD_eq_getElem?_getD, List.getElem?_eq_getElem hi]
  have := h _ (List.getElem_mem hi)
  generalize xs[i] = u at this
  cases this with
  | int hw => exact ⟨_, rfl, hw⟩
end Go.Abs
end
section
namespace Go.Proofs.Ytolkoacllaaceaa
open Go Go.Abs Go.RowKit Go.ChangeShapes Go.WideShapes Go.ChangeAt
theorem wi_run (n lo hi : Int) (_hn : -9223372036854775808 ≤ n ∧ n ≤ 9223372036854775807) (h1 : -1000000000000 ≤ lo) (h2 : lo ≤ hi) (h3 : hi ≤ 2000000000000) : runP std noCon 40 noL (withinP std kvF) 13 Try.f13 (n, lo, hi, ()) := by
  rw [within_vc]
  have hm : std.rem n ((hi - lo) + 1) = n.tmod (hi - lo + 1) := rfl
  rw [hm]
  have e := Int.tmod_eq_emod_of_nonneg (a := n) (b := hi - lo + 1)
  have b1 := Int.emod_nonneg n (show hi - lo + 1 ≠ 0 by omega)
  have b2 := Int.emod_lt_of_pos n (show 0 < hi - lo + 1 by omega)
  have key : (0 ≤ n.tmod (hi - lo + 1) ∧ n.tmod (hi - lo + 1) = n % (hi - lo + 1)) ∨ (n.tmod (hi - lo + 1) < 0 ∧ n.tmod (hi - lo + 1) + (hi - lo + 1) = n % (hi - lo + 1)) := by
    have := Int.tmod_eq_emod (a := n) (b := hi - lo + 1)
    split at this <;> rename_i c
    · left; omega
    · by_cases z : n % (hi - lo + 1) = 0
      · exfalso
        exact c (.inr (Int.dvd_of_emod_eq_zero z))
      · right; omega
  generalize n.tmod (hi - lo + 1) = r at key ⊢
  have hw : kvF.wi n lo hi = lo + n % (hi - lo + 1) := rfl
  rw [hw]
  generalize n % (hi - lo + 1) = u at key b1 b2 ⊢
  refine ⟨by omega, by omega, by omega, fun h => ⟨by have := of_decide_eq_true h; omega, by have := of_decide_eq_true h; omega, by have := of_decide_eq_true h; omega, by have := of_decide_eq_true h; omega, ?_⟩, fun h => ⟨by have := of_decide_eq_false h; omega, ?_⟩⟩
  · have := of_decide_eq_true h
    rw [show lo + (r + hi - lo + 1) = lo + u by omega]
  · have := of_decide_eq_false h
    rw [show r = u by omega]
theorem wi_ok : PFOk Try.prog 13 (withinP std kvF) :=
  pf_ok (LS := fun _ => noL) Try.progOk (noCon_ok _) (inCallF_ok 60) (withinP std kvF) Try.func13 (show _ = some (bodyS Try.prog 13) by kernel_rfl) fun d hd => wi_run d.1 d.2.1 d.2.2.1 (inI_std hd.1) hd.2.1 hd.2.2.1 hd.2.2.2
theorem wi_in {n hi : Int} (h : 0 ≤ hi) : 0 ≤ kvF.wi n 0 hi ∧ kvF.wi n 0 hi ≤ hi := by
  have b1 := Int.emod_nonneg n (show hi - 0 + 1 ≠ 0 by omega)
  have b2 := Int.emod_lt_of_pos n (show 0 < hi - 0 + 1 by omega)
  show 0 ≤ 0 + n % (hi - 0 + 1) ∧ 0 + n % (hi - 0 + 1) ≤ hi
  omega
def orG (xs : List Value) (d : OrC) : Prop := d.x = pairsF xs ∧ d.y = setF (pairsF xs) mB noB ∧ ∃ i : Nat, d.i = i ∧ i ≤ 32 ∧ d.f = fullL i
def orJ (xs : List Value) (d : OrB) : Prop := d.n = d.tu.length ∧ d.tu.Perm (pairsF xs) ∧ ∃ i : Nat, d.i = i ∧ i ≤ d.tu.length ∧ RightL d.x ∧ d.x.length = i ∧ ∀ y, y ∈ d.x ↔ y ∈ d.tu.take i
def orI (xs os : List Value) (d : OrA) : Prop := d.tu.Perm (pairsF xs) ∧ ∃ i : Nat, d.i = i ∧ i ≤ os.length
theorem dif {i : Nat} {a : Int} (h : a = i) : a.toNat = i := by omega
theorem order1 (xs : List Value) (n : Int) (hn : -9223372036854775808 ≤ n ∧ n ≤ 9223372036854775807) {d : OrB} (hd : d.x = pairsF xs) : order_vc_L1 kvF xs n (orG xs) (fun e => (32 - e.i).toNat) d := by
  obtain ⟨hpl, hpk⟩ := pairs_keys xs
  obtain ⟨hy1, hy2, hy3⟩ := set_del (pairs_right xs) (by omega) hpk
  refine ⟨⟨d.x, setF d.x mB noB, [], 0⟩, rfl, ⟨hd, by show setF d.x _ _ = _; rw [hd], 0, rfl, by omega, rfl⟩, fun e ⟨hx, hy, i, hi, hle, hf⟩ => ⟨fun h => ?_, fun h => ?_⟩⟩
  · have h := of_decide_eq_true h
    have hlt : i < 32 := by omega
    obtain ⟨f1, f2, f3⟩ := full_ok i hlt
    have hq : std.quo e.i 26 = ((i / 26 : Nat) : Int) := by rw [hi]; rfl
    have hr : std.rem e.i 26 = ((i % 26 : Nat) : Int) := by rw [hi]; rfl
    have hs : std.slen (ByteArray.mk (Array.mk [(107 : UInt8)])) = 1 := rfl
    have next : (-9223372036854775808 ≤ e.i + 1 ∧ e.i + 1 ≤ 9223372036854775807) ∧ ∃ d' : OrC, [Filler.val (Value.int IntKind.i64 n), Filler.dl (kvF.pairs xs), Filler.dl d'.x, Filler.dl d'.y, Filler.dl d'.f, Filler.val (Value.int IntKind.i64 d'.i)] = [Filler.val (Value.int IntKind.i64 n), Filler.dl (kvF.pairs xs), Filler.dl e.x, Filler.dl e.y, Filler.dl (kvF.set e.f (keyN e.i) noB), Filler.val (Value.int IntKind.i64 (e.i + 1))] ∧ Nat.le (Nat.succ (32 - d'.i).toNat) (32 - e.i).toNat ∧ orG xs d' := by
      refine ⟨by omega, ⟨e.x, e.y, fullL (i + 1), e.i + 1⟩, ?_, ?_, hx, hy, i + 1, by show e.i + 1 = _; omega, hlt, rfl⟩
      · rw [hf, hi]; rfl
      · show (32 - (e.i + 1)).toNat + 1 ≤ (32 - e.i).toNat; omega
    have hso : kvF.setok e.f (keyN e.i) noB = decide (i < 30) := by rw [hf, hi]; exact f1
    refine ⟨by omega, by rw [hq]; omega, by omega, by rw [hr]; omega, ?_, by rw [hf]; omega, fun h1 => ⟨fun _ => next, fun h2 => ?_⟩, fun h1 => ⟨fun h2 => ?_, fun _ => next⟩⟩
    · rw [hs]
      have := f3
      rw [← hi] at this
      omega
    · exfalso
      have h1 : kvF.setok e.f (keyN e.i) noB = true := h1
      rw [hso] at h1
      have := of_decide_eq_true h1; have := of_decide_eq_false h2; omega
    · exfalso
      have h1 : kvF.setok e.f (keyN e.i) noB = false := h1
      rw [hso] at h1
      have := of_decide_eq_false h1; have := of_decide_eq_true h2; omega
  · have h := of_decide_eq_false h
    have e32 : i = 32 := by omega
    subst e32
    have f0 := full_len
    have f1 := full_new
    generalize fullL 32 = F at hf f0 f1
    subst hf
    have hlen : e.f.length = 30 := f0.1
    have hw := wi_in (n := n) (hi := (e.f.length : Int) - 1) (by omega)
    have hk : (kvF.wi n 0 ((e.f.length : Int) - 1)).toNat < 30 := by omega
    have k1 : kvF.setok e.f (kP e.f (kvF.wi n 0 ((e.f.length : Int) - 1)).toNat) newW = true := (f1 _ hk).1
    have k2 : (kvF.set e.f (kP e.f (kvF.wi n 0 ((e.f.length : Int) - 1)).toNat) newW).length = 30 := (f1 _ hk).2
    have hsx : kvF.same e.x (kvF.pairs xs) = true := by rw [hx]; exact same_self _
    have hsy : kvF.same (kvF.del e.y mB) (kvF.pairs xs) = true := by rw [hy]; show sameF (dropF (setF (pairsF xs) mB noB) mB) (pairsF xs) = true; rw [hy3]; exact same_self _
    have hright : kvF.right e.f = true := f0.2
    have hxl : e.x.length ≤ 1000000 := by rw [hx]; omega
    have hyl : e.y.length ≤ 1000000 := by rw [hy]; omega
    have hdl : (kvF.del e.y mB).length ≤ 1000000 := by rw [hy]; show (dropF (setF (pairsF xs) mB noB) mB).length ≤ _; omega
    refine ⟨fun h1 => ?_, fun _ => ⟨by omega, ⟨hn, by omega⟩, by omega, by omega, fun _ => ⟨hxl, fun _ => ⟨hyl, hdl, fun _ => ⟨fun _ => ⟨by omega, fun _ => rfl, fun h5 => ?_⟩, fun h5 => ?_⟩, fun h4 => ?_⟩, fun h3 => ?_⟩, fun h2 => ?_⟩⟩
    · rw [hlen] at h1; cases h1
    · rw [hright] at h5; cases h5
    · have h5 : (((kvF.set e.f (kP e.f (kvF.wi n 0 ((e.f.length : Int) - 1)).toNat) newW).length : Int) == (e.f.length : Int)) = false := h5
      rw [k2, hlen] at h5; cases h5
    · have h4 : kvF.same (kvF.del e.y mB) (kvF.pairs xs) = false := h4
      rw [hsy] at h4; cases h4
    · rw [hsx] at h3; cases h3
    · have h2 : kvF.setok e.f (kP e.f (kvF.wi n 0 ((e.f.length : Int) - 1)).toNat) newW = false := h2
      rw [k1] at h2; cases h2
theorem order2 (xs : List Value) (n : Int) (hn : -9223372036854775808 ≤ n ∧ n ≤ 9223372036854775807) {d : OrA} (hd : d.tu.Perm (pairsF xs)) : order_vc_L2 kvF xs n (orJ xs) (fun e => (e.n - e.i).toNat) (orG xs) (fun e => (32 - e.i).toNat) d := by
  obtain ⟨hpl, hpk⟩ := pairs_keys xs
  have hR := pairs_right xs
  have hr := (right_iff _).1 hR.1
  refine ⟨⟨[], d.tu, d.tu.length, 0⟩, rfl, ⟨rfl, hd, 0, rfl, Nat.zero_le _, right_nil, rfl, fun y => by simp⟩, fun e ⟨hl, hp, i, hi, hle, hx, hxl, hmem⟩ => ⟨fun h => ?_, fun h => ?_⟩⟩
  · have h := of_decide_eq_true h
    have hlt : i < e.tu.length := by omega
    have htl := hp.length_eq
    have hin : e.tu[i] ∈ pairsF xs := hp.mem_iff.1 (List.getElem_mem hlt)
    have hmay := hr.1 _ hin
    have hnd : e.tu.Pairwise fun x y => keyV x ≠ keyV y := (List.Perm.pairwise_iff (R := fun x y => keyV x ≠ keyV y) (fun h e => h e.symm) hp).2 (hr.2.1.imp fun {a b} h1 e => by rw [e, lt_irrefl] at h1; cases h1)
    have hnew : ∀ y ∈ e.x, keyV y ≠ keyV e.tu[i] := fun y hy => by
      obtain ⟨j, hj, rfl⟩ := List.getElem_of_mem ((hmem y).1 hy)
      rw [List.length_take] at hj
      rw [List.getElem_take]
      exact (List.pairwise_iff_getElem.1 hnd) j i (by omega) hlt (by omega)
    have hpr : prV (keyV e.tu[i]) (valV e.tu[i]) = e.tu[i] := (hR.2 _ hin).symm
    obtain ⟨t1, t2, t3, t4⟩ := two_sets hx hmay (by omega) hnew
    rw [dif hi, kP_get hlt, vP_get hlt]
    have next : (-9223372036854775808 ≤ e.i + 1 ∧ e.i + 1 ≤ 9223372036854775807) ∧ ∃ d' : OrB, [Filler.val (Value.int IntKind.i64 n), Filler.dl (kvF.pairs xs), Filler.dl d'.x, Filler.dl d'.tu, Filler.val (Value.int IntKind.i64 d'.n), Filler.val (Value.int IntKind.i64 d'.i)] = [Filler.val (Value.int IntKind.i64 n), Filler.dl (kvF.pairs xs), Filler.dl (kvF.set (kvF.set e.x (keyV e.tu[i]) noW) (keyV e.tu[i]) (valV e.tu[i])), Filler.dl e.tu, Filler.val (Value.int IntKind.i64 e.n), Filler.val (Value.int IntKind.i64 (e.i + 1))] ∧ Nat.le (Nat.succ (d'.n - d'.i).toNat) (e.n - e.i).toNat ∧ orJ xs d' := by
      refine ⟨by omega, ⟨setF (setF e.x (keyV e.tu[i]) noW) (keyV e.tu[i]) (valV e.tu[i]), e.tu, e.n, e.i + 1⟩, rfl, ?_, hl, hp, i + 1, by show e.i + 1 = _; omega, hlt, t1, by show _ = i + 1; rw [t3, hxl], fun y => ?_⟩
      · show (e.n - (e.i + 1)).toNat + 1 ≤ (e.n - e.i).toNat; omega
      · show y ∈ setF _ _ _ ↔ _
        rw [t4 y, hmem y, hpr, List.take_succ_eq_append_getElem hlt, List.mem_append, List.mem_singleton]
    have t2 : (kvF.set e.x (keyV e.tu[i]) noW).length ≤ 1000000 := by show (setF _ _ _).length ≤ _; omega
    exact ⟨by omega, by omega, fun _ => ⟨t2, fun _ => next, fun _ => next⟩, fun _ => ⟨t2, fun _ => next, fun _ => next⟩⟩
  · have h := of_decide_eq_false h
    have hx2 : e.x = pairsF xs := ord_ext ((right_iff _).1 hx.1).2.1 hr.2.1 fun y => by rw [hmem y, show i = e.tu.length by omega, List.take_length, hp.mem_iff]
    have htl := hp.length_eq
    exact ⟨by omega, fun _ => order1 xs n hn hx2, fun _ => order1 xs n hn hx2⟩
theorem order3 (xs os : List Value) (n : Int) (ho : IntsOk os) (hm : os.length ≤ maxLen) (hn : -9223372036854775808 ≤ n ∧ n ≤ 9223372036854775807) : order_vc_L3 kvF xs os n (orI xs os) (fun e => ((os.length : Int) - e.i).toNat) (orJ xs) (fun e => (e.n - e.i).toNat) (orG xs) (fun e => (32 - e.i).toNat) := by
  obtain ⟨hpl, _⟩ := pairs_keys xs
  have hml : maxLen ≤ 9223372036854775807 := by decide
  refine ⟨⟨pairsF xs, 0⟩, rfl, ⟨List.Perm.refl _, 0, rfl, Nat.zero_le _⟩, fun d ⟨hp, i, hi, hle⟩ => ⟨fun h => ⟨fun h1 => ?_, fun _ => order2 xs n hn hp⟩, fun _ => order2 xs n hn hp⟩⟩
  have h := of_decide_eq_true h
  have h1 := of_decide_eq_true h1
  have htl := hp.length_eq
  have hv := ho i (by omega)
  have hw := wi_in (n := eI os i) (hi := (d.tu.length : Int) - 1) (by omega)
  rw [dif hi]
  generalize hk : kvF.wi (eI os i) 0 ((d.tu.length : Int) - 1) = k at hw
  have hkl : k.toNat < d.tu.length := by omega
  have hwf : Wf d.tu := fun x hx => (pairs_right xs).2 x (hp.mem_iff.1 hx)
  have hpm := turn_perm hwf hkl
  rw [show (k + 1).toNat = k.toNat + 1 by omega]
  have l1 : (List.take (k.toNat - 0) (List.drop 0 d.tu)).length ≤ 12 := by rw [List.length_take, List.length_drop]; omega
  refine ⟨by omega, by omega, ⟨hv, by omega⟩, by omega, by show 1 * 32 ≤ _; omega, ⟨by omega, trivial⟩, ?_, by omega, ⟨trivial, by omega⟩, ?_, by omega, ⟨_, d.i + 1⟩, rfl, ?_, hpm.trans hp, i + 1, by show d.i + 1 = _; omega, by omega⟩
  · rw [List.length_append]; show (1 + _) * 32 ≤ _; omega
  · have := hpm.length_eq
    have e : ∀ x : List Value, x.length = d.tu.length → x.length * 32 ≤ 140737488355328 := fun x hx => by omega
    exact e _ this
  · show ((os.length : Int) - (d.i + 1)).toNat + 1 ≤ ((os.length : Int) - d.i).toNat; omega
theorem orderCon_ok : ConOk Try.prog (orderCon std kvF) := conL_ok fun x hx => by
  simp only [List.mem_cons, List.not_mem_nil, or_false] at hx
  rcases hx with rfl | rfl | rfl | rfl | rfl | rfl | rfl
  · exact pcon_ok pairs_ok
  · exact pcon_ok wi_ok
  · exact pcon_ok set_ok
  · exact pcon_ok same_ok
  · exact pcon_ok del_ok
  · exact pcon_ok right_ok
  · exact closedC_ok (knownOk_none _) Try.func3 (show _ = some (bodyS Try.prog 3) by kernel_rfl) rfl runs_closed
def inR (n : Int) : Prop := -9223372036854775808 ≤ n ∧ n ≤ 9223372036854775807
noncomputable def orderQ : PF := pf (.cons cIs (.cons cIs (.cons cI64 .nil))) (fun d => IntsOk d.1 ∧ IntsOk d.2.1 ∧ d.2.1.length ≤ maxLen ∧ inR d.2.2.1) [.bool false] fun _ => [.bool true]
theorem order_run (xs os : List Value) (n : Int) (hx : IntsOk xs) (ho : IntsOk os) (hm : os.length ≤ maxLen) (hn : inR n) : Holds (runP std (orderCon std kvF) 90 (orderLs os (kvF.pairs xs) n (orI xs os) (fun e => ((os.length : Int) - e.i).toNat) (orJ xs) (fun e => (e.n - e.i).toNat) (orG xs) (fun e => (32 - e.i).toNat)) orderP 4 Try.f4 (xs, os, n, ())) := by
  constructor
  rw [order_vc]
  have := (pairs_keys xs).1
  exact ⟨hx, by show (pairsF xs).length * 32 ≤ _; omega, order3 xs os n ho hm hn⟩
theorem order_ok : PFOk Try.prog 4 orderQ :=
  pf_ok (LS := fun d => orderLs d.2.1 (kvF.pairs d.1) d.2.2.1 (orI d.1 d.2.1) (fun e => ((d.2.1.length : Int) - e.i).toNat) (orJ d.1) (fun e => (e.n - e.i).toNat) (orG d.1) (fun e => (32 - e.i).toNat)) Try.progOk orderCon_ok (inCallF_ok 60) orderQ Try.func4 (show _ = some (bodyS Try.prog 4) by kernel_rfl) fun d hd => by
    obtain ⟨xs, os, n, u⟩ := d
    obtain ⟨h⟩ := order_run xs os n hd.1 hd.2.1 hd.2.2.1 hd.2.2.2
    exact h
theorem kvOrder_calls (w : World) (v0 : Value) (h0 : SlIn w zI v0) (v1 : Value) (h1 : SlIn w zI v1) (a : Int) (ha : inR a) : Calls Try.prog 4 #[v0, v1, .int .i64 a] w fun e w' => Below w.heap.size w w' ∧ e = .returned (.bool true) := by
  obtain ⟨xs, _, hx, d0⟩ := h0
  obtain ⟨os, hm, ho, d1⟩ := h1
  have ints : ∀ {l : List Value}, (∀ x ∈ l, RawOk zI x) → IntsOk l := fun hl i hi => by
    obtain ⟨m, e, hw⟩ := ints_ok hl i zI hi
    unfold eI
    rw [e]; exact i64_range hw
  exact law_pf Try.progOk Try.func4 (show _ = some (bodyS Try.prog 4) by kernel_rfl) order_ok rfl (d := (xs, os, a, ())) ⟨ints hx, ints ho, hm, ha⟩ rfl (xs := [dsl zI xs, dsl zI os, .int .i64 a]) (by kernel_rfl) (All2.cons d0 (All2.cons d1 (All2.cons (.inl ⟨rfl, .plain rfl⟩) All2.nil)))
set_option maxRecDepth 100000 in
theorem kvOrder_lifted (os : Os) (started : os.Started) (H : Type) (enc : TypeId × Value → H) :
    ReturnsInHanded {} Try.checked os 4 .any (Rows.kvOrderSpec.pre6 enc Try.prog Try.f4 Rows.kvOrderRow.domain false) (Rows.kvOrderSpec.post enc Try.prog Try.f4 false true false false) := by
  refine returnsInHanded_of_change (C := Try.checked) Try.own started (by kernel_rfl) Try.func4
    (ChangeSpec.witness6 (enc := enc) (C := Try.checked) false ⟨#[], #[.slice none 0 0, .slice none 0 0, .int .i64 0], []⟩ 40 (by kernel_rfl) (by kernel_rfl) (by kernel_rfl) (by kernel_rfl)) ?_
  intro W base args ds gs before hval0 hW hcnd _
  have hval : ∀ (j : Nat) t v, Try.f4.params[j]? = some t → args[j]? = some v → Value.okWide Try.prog W .any base t v := hval0
  have hW' := hW
  obtain ⟨p, q, hA0, hV, rfl, hfz, hnd⟩ := hW
  have hA : DataW.TrodAll enc Try.prog W 0 (fun _ => true) true Try.f4.params.toList args.toList ds p := hA0
  rw [Try.params4] at hA hval
  have hAk := hA
  obtain ⟨v0, v1, v2, d0, d1, d2, p0, p1, p2, rfl, rfl, rfl, h0, h1, h2⟩ := trodAll_three' hA
  obtain ⟨rfl, rfl⟩ := trodVars_none hV
  have in0 : SlIn W zI v0 := arg_slice (n := 8) (by kernel_rfl) (by decide +kernel) Try.underlying32 (by kernel_rfl) (hval 0 32 v0 rfl rfl) h0
  have in1 : SlIn W zI v1 := arg_slice (n := 8) (by kernel_rfl) (by decide +kernel) Try.underlying32 (by kernel_rfl) (hval 1 32 v1 rfl rfl) h1
  obtain ⟨a2, rfl, rfl, rfl, wa2⟩ := open_int Try.underlying3 (hval 2 3 v2 rfl rfl) h2
  clear hA0 hval0
  have hlt : ∀ x ∈ p0 ++ p1 ++ [] ++ ([] : List MemPlace), x.block < W.heap.size := fun x hx => hW'.lt x (by simpa using hx)
  refine (kvOrder_calls W v0 in0 v1 in1 a2 (i64_range wa2)).mono fun e W' ⟨hb, he⟩ => ?_
  subst he
  exact ⟨_, rfl, post_below (pa := p0 ++ p1 ++ [] ++ []) (pv := []) hW' (fun _ _ _ => trodAll_mk1 (shut_bool Try.underlying4 true)) (fun sp hsp => trodAll_stays (by kernel_rfl) hb (by decide +kernel) hAk hlt (fun x hx => hsp x (by simpa using hx))) (fun _ _ => rfl) (by simp) hb (ok_one (by kernel_rfl) rfl (okWide_bool_mk Try.underlying4 true))⟩

theorem kvOrder_holds : Rows.KvOrderSaid :=
  OpenClaim.holds_of_wide 4 Try.f4 rfl rfl rfl rfl rfl rfl rfl ⟨rfl, rfl, rfl, rfl, rfl⟩ rfl rfl rfl rfl rfl (by kernel_rfl) Try.func4 (by kernel_rfl)
    (of_decide_eq_true (by kernel_rfl)) (by unfold Func.isWrapper; first | (rw [if_pos (by decide +kernel)]; kernel_rfl) | (rw [if_neg (by decide +kernel)]; exact ⟨rfl, rfl⟩))
    (fun os started H enc _ => kvOrder_lifted os started H enc)
end Go.Proofs.Ytolkoacllaaceaa
end
