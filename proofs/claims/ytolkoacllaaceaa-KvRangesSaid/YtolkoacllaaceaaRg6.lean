/-
  KvRanges: a range has just the pairs from its start on, below its end; two that meet are one; leaves tell pairs apart.
-/
import Derived.Test.YtolkoacllaaceaaRg5
import Derived.Lib.AppendZeros
import Derived.Lib.SlFresh
import Derived.Test.YtolkoacllaaceaaRows
section
namespace Go.Proofs.Ytolkoacllaaceaa
open Go.Abs Go
set_option maxRecDepth 100000 in
theorem pairs_vc (g : KvF) (xs ks : List Value) (I : PaL → Prop) (m : PaL → Nat) (J : PaM → Prop) (q : PaM → Nat) : runP std (pairsCon std g) 60 (pairsLs xs ks I m J q) (pairsP std g) 12 Try.f12 (xs, ()) =
  (∃ (d9 : PaL), (([(Filler.dl xs), (Filler.val (Value.int IntKind.i64 (d9.i))), (Filler.me (d9.es))] = [(Filler.dl xs), (Filler.val (Value.int IntKind.i64 (0 : Int))), (Filler.me [])]) ∧ ((I d9) ∧ (∀ (d10 : PaL), ((I d10) → ((((decide ((d10.i) < ((List.length xs) : Int))) = true) → ((((decide ((d10.i) < (12 : Int))) = true) → ((((0 : Int) ≤ (d10.i)) ∧ ((d10.i) < ((List.length xs) : Int))) ∧ ((((-9223372036854775808 : Int) ≤ (eI xs (Int.toNat (d10.i)))) ∧ ((eI xs (Int.toNat (d10.i))) ≤ (9223372036854775807 : Int))) ∧ ((((0 : Int) ≤ (d10.i)) ∧ ((d10.i) < ((List.length xs) : Int))) ∧ ((((0 : Int) < (12 : Int)) ∧ (((-9223372036854775808 : Int) ≤ (eI xs (Int.toNat (d10.i)))) ∧ ((eI xs (Int.toNat (d10.i))) ≤ (9223372036854775807 : Int)))) ∧ ((((-9223372036854775808 : Int) ≤ (std.quo (eI xs (Int.toNat (d10.i))) (12 : Int))) ∧ ((std.quo (eI xs (Int.toNat (d10.i))) (12 : Int)) ≤ (9223372036854775807 : Int))) ∧ ((((-9223372036854775808 : Int) ≤ ((d10.i) + (1 : Int))) ∧ (((d10.i) + (1 : Int)) ≤ (9223372036854775807 : Int))) ∧ (∃ (d14 : PaL), (([(Filler.dl xs), (Filler.val (Value.int IntKind.i64 (d14.i))), (Filler.me (d14.es))] = [(Filler.dl xs), (Filler.val (Value.int IntKind.i64 ((d10.i) + (1 : Int)))), (Filler.me (std.mput (Value.string (ByteArray.mk (Array.mk []))) (d10.es) (Value.string (g.key (eI xs (Int.toNat (d10.i))))) (Value.string (g.txt (std.quo (eI xs (Int.toNat (d10.i))) (12 : Int))))))]) ∧ ((Nat.le (Nat.succ (m d14)) (m d10)) ∧ (I d14))))))))))) ∧ (((decide ((d10.i) < (12 : Int))) = false) → (∃ (d14 : PaM), (([(Filler.dl (d14.r)), (Filler.dl ks), (Filler.val (Value.int IntKind.i64 (d14.n))), (Filler.val (Value.int IntKind.i64 (d14.i))), (Filler.me (d14.es))] = [(Filler.dl []), (Filler.dl [(Value.string (ByteArray.mk (Array.mk [(97 : UInt8)]))), (Value.string (ByteArray.mk (Array.mk [(97 : UInt8), (98 : UInt8)]))), (Value.string (ByteArray.mk (Array.mk [(97 : UInt8), (98 : UInt8), (99 : UInt8)]))), (Value.string (ByteArray.mk (Array.mk [(98 : UInt8)]))), (Value.string (ByteArray.mk (Array.mk [(98 : UInt8), (97 : UInt8)]))), (Value.string (ByteArray.mk (Array.mk [(115 : UInt8), (47 : UInt8), (97 : UInt8)]))), (Value.string (ByteArray.mk (Array.mk [(115 : UInt8), (47 : UInt8), (98 : UInt8)]))), (Value.string (ByteArray.mk (Array.mk [(115 : UInt8), (47 : UInt8), (99 : UInt8)]))), (Value.string (ByteArray.mk (Array.mk [(116 : UInt8)]))), (Value.string (ByteArray.mk (Array.mk [(117 : UInt8)]))), (Value.string (ByteArray.mk (Array.mk [(122 : UInt8)]))), (Value.string (ByteArray.mk (Array.mk [(122 : UInt8), (122 : UInt8)])))]), (Filler.val (Value.int IntKind.i64 (12 : Int))), (Filler.val (Value.int IntKind.i64 (0 : Int))), (Filler.me (d10.es))]) ∧ ((J d14) ∧ (∀ (d15 : PaM), ((J d15) → ((((decide ((d15.i) < (d15.n))) = true) → ((((0 : Int) ≤ (d15.i)) ∧ ((d15.i) < ((List.length ks) : Int))) ∧ ((((std.mhas (Value.string (ByteArray.mk (Array.mk []))) (d15.es) (Value.string (eS ks (Int.toNat (d15.i))))) = true) → ((((List.length ((d15.r) ++ [(Value.agg (Array.mk [(Value.string (eS ks (Int.toNat (d15.i)))), (Value.string (std.dstr (std.mget (Value.string (ByteArray.mk (Array.mk []))) (Value.string (ByteArray.mk (Array.mk []))) (d15.es) (Value.string (eS ks (Int.toNat (d15.i)))))))]))])) * 32) ≤ 140737488355328) ∧ ((((-9223372036854775808 : Int) ≤ ((d15.i) + (1 : Int))) ∧ (((d15.i) + (1 : Int)) ≤ (9223372036854775807 : Int))) ∧ (∃ (d19 : PaM), (([(Filler.dl (d19.r)), (Filler.dl ks), (Filler.val (Value.int IntKind.i64 (d19.n))), (Filler.val (Value.int IntKind.i64 (d19.i))), (Filler.me (d19.es))] = [(Filler.dl ((d15.r) ++ [(Value.agg (Array.mk [(Value.string (eS ks (Int.toNat (d15.i)))), (Value.string (std.dstr (std.mget (Value.string (ByteArray.mk (Array.mk []))) (Value.string (ByteArray.mk (Array.mk []))) (d15.es) (Value.string (eS ks (Int.toNat (d15.i)))))))]))])), (Filler.dl ks), (Filler.val (Value.int IntKind.i64 (d15.n))), (Filler.val (Value.int IntKind.i64 ((d15.i) + (1 : Int)))), (Filler.me (d15.es))]) ∧ ((Nat.le (Nat.succ (q d19)) (q d15)) ∧ (J d19))))))) ∧ (((std.mhas (Value.string (ByteArray.mk (Array.mk []))) (d15.es) (Value.string (eS ks (Int.toNat (d15.i))))) = false) → ((((-9223372036854775808 : Int) ≤ ((d15.i) + (1 : Int))) ∧ (((d15.i) + (1 : Int)) ≤ (9223372036854775807 : Int))) ∧ (∃ (d19 : PaM), (([(Filler.dl (d19.r)), (Filler.dl ks), (Filler.val (Value.int IntKind.i64 (d19.n))), (Filler.val (Value.int IntKind.i64 (d19.i))), (Filler.me (d19.es))] = [(Filler.dl (d15.r)), (Filler.dl ks), (Filler.val (Value.int IntKind.i64 (d15.n))), (Filler.val (Value.int IntKind.i64 ((d15.i) + (1 : Int)))), (Filler.me (d15.es))]) ∧ ((Nat.le (Nat.succ (q d19)) (q d15)) ∧ (J d19))))))))) ∧ (((decide ((d15.i) < (d15.n))) = false) → ([(dsl zP (d15.r))] = [(dsl zP (g.pairs xs))]))))))))))) ∧ (((decide ((d10.i) < ((List.length xs) : Int))) = false) → (∃ (d13 : PaM), (([(Filler.dl (d13.r)), (Filler.dl ks), (Filler.val (Value.int IntKind.i64 (d13.n))), (Filler.val (Value.int IntKind.i64 (d13.i))), (Filler.me (d13.es))] = [(Filler.dl []), (Filler.dl [(Value.string (ByteArray.mk (Array.mk [(97 : UInt8)]))), (Value.string (ByteArray.mk (Array.mk [(97 : UInt8), (98 : UInt8)]))), (Value.string (ByteArray.mk (Array.mk [(97 : UInt8), (98 : UInt8), (99 : UInt8)]))), (Value.string (ByteArray.mk (Array.mk [(98 : UInt8)]))), (Value.string (ByteArray.mk (Array.mk [(98 : UInt8), (97 : UInt8)]))), (Value.string (ByteArray.mk (Array.mk [(115 : UInt8), (47 : UInt8), (97 : UInt8)]))), (Value.string (ByteArray.mk (Array.mk [(115 : UInt8), (47 : UInt8), (98 : UInt8)]))), (Value.string (ByteArray.mk (Array.mk [(115 : UInt8), (47 : UInt8), (99 : UInt8)]))), (Value.string (ByteArray.mk (Array.mk [(116 : UInt8)]))), (Value.string (ByteArray.mk (Array.mk [(117 : UInt8)]))), (Value.string (ByteArray.mk (Array.mk [(122 : UInt8)]))), (Value.string (ByteArray.mk (Array.mk [(122 : UInt8), (122 : UInt8)])))]), (Filler.val (Value.int IntKind.i64 (12 : Int))), (Filler.val (Value.int IntKind.i64 (0 : Int))), (Filler.me (d10.es))]) ∧ ((J d13) ∧ (∀ (d14 : PaM), ((J d14) → ((((decide ((d14.i) < (d14.n))) = true) → ((((0 : Int) ≤ (d14.i)) ∧ ((d14.i) < ((List.length ks) : Int))) ∧ ((((std.mhas (Value.string (ByteArray.mk (Array.mk []))) (d14.es) (Value.string (eS ks (Int.toNat (d14.i))))) = true) → ((((List.length ((d14.r) ++ [(Value.agg (Array.mk [(Value.string (eS ks (Int.toNat (d14.i)))), (Value.string (std.dstr (std.mget (Value.string (ByteArray.mk (Array.mk []))) (Value.string (ByteArray.mk (Array.mk []))) (d14.es) (Value.string (eS ks (Int.toNat (d14.i)))))))]))])) * 32) ≤ 140737488355328) ∧ ((((-9223372036854775808 : Int) ≤ ((d14.i) + (1 : Int))) ∧ (((d14.i) + (1 : Int)) ≤ (9223372036854775807 : Int))) ∧ (∃ (d18 : PaM), (([(Filler.dl (d18.r)), (Filler.dl ks), (Filler.val (Value.int IntKind.i64 (d18.n))), (Filler.val (Value.int IntKind.i64 (d18.i))), (Filler.me (d18.es))] = [(Filler.dl ((d14.r) ++ [(Value.agg (Array.mk [(Value.string (eS ks (Int.toNat (d14.i)))), (Value.string (std.dstr (std.mget (Value.string (ByteArray.mk (Array.mk []))) (Value.string (ByteArray.mk (Array.mk []))) (d14.es) (Value.string (eS ks (Int.toNat (d14.i)))))))]))])), (Filler.dl ks), (Filler.val (Value.int IntKind.i64 (d14.n))), (Filler.val (Value.int IntKind.i64 ((d14.i) + (1 : Int)))), (Filler.me (d14.es))]) ∧ ((Nat.le (Nat.succ (q d18)) (q d14)) ∧ (J d18))))))) ∧ (((std.mhas (Value.string (ByteArray.mk (Array.mk []))) (d14.es) (Value.string (eS ks (Int.toNat (d14.i))))) = false) → ((((-9223372036854775808 : Int) ≤ ((d14.i) + (1 : Int))) ∧ (((d14.i) + (1 : Int)) ≤ (9223372036854775807 : Int))) ∧ (∃ (d18 : PaM), (([(Filler.dl (d18.r)), (Filler.dl ks), (Filler.val (Value.int IntKind.i64 (d18.n))), (Filler.val (Value.int IntKind.i64 (d18.i))), (Filler.me (d18.es))] = [(Filler.dl (d14.r)), (Filler.dl ks), (Filler.val (Value.int IntKind.i64 (d14.n))), (Filler.val (Value.int IntKind.i64 ((d14.i) + (1 : Int)))), (Filler.me (d14.es))]) ∧ ((Nat.le (Nat.succ (q d18)) (q d14)) ∧ (J d18))))))))) ∧ (((decide ((d14.i) < (d14.n))) = false) → ([(dsl zP (d14.r))] = [(dsl zP (g.pairs xs))]))))))))))))))) := by kernel_rfl
end Go.Proofs.Ytolkoacllaaceaa
end
section
namespace Go.Proofs.Ytolkoacllaaceaa
open Go.RowKit Go.Abs Go
theorem esF_zero (xs : List Value) : esF xs 0 = [] := rfl
theorem esF_next (xs : List Value) (i : Nat) : esF xs (i + 1) = mput zS (esF xs i) (.string (keyF (eI xs i))) (.string (txtF (Int.tdiv (eI xs i) 12))) := rfl
theorem outL_len (es : List (Value × Value)) : ∀ i, (outL es i).length ≤ i
  | 0 => Nat.le_refl _
  | i + 1 => by
    have := outL_len es i
    unfold outL
    split
    · simp; omega
    · omega
def pairI (xs : List Value) (d : PaL) : Prop := ∃ i : Nat, d.i = i ∧ i ≤ xs.length ∧ i ≤ 12 ∧ d.es = esF xs i
def pairJ (xs : List Value) (d : PaM) : Prop := d.n = 12 ∧ d.es = esF xs (min xs.length 12) ∧ ∃ i : Nat, d.i = i ∧ i ≤ 12 ∧ d.r = outL d.es i
theorem keysV_len : keysV.length = 12 := rfl
theorem tdiv_small {n : Int} (h : -9223372036854775808 ≤ n ∧ n ≤ 9223372036854775807) : -9223372036854775808 ≤ Int.tdiv n 12 ∧ Int.tdiv n 12 ≤ 9223372036854775807 := by
  have h1 : (Int.tdiv n 12).natAbs = n.natAbs / 12 := Int.natAbs_tdiv n 12
  omega
theorem pairs2 (xs : List Value) {es : List (Value × Value)} (he : es = esF xs (min xs.length 12)) : (∃ (d14 : PaM), (([(Filler.dl (d14.r)), (Filler.dl keysV), (Filler.val (Value.int IntKind.i64 (d14.n))), (Filler.val (Value.int IntKind.i64 (d14.i))), (Filler.me (d14.es))] = [(Filler.dl []), (Filler.dl [(Value.string (ByteArray.mk (Array.mk [(97 : UInt8)]))), (Value.string (ByteArray.mk (Array.mk [(97 : UInt8), (98 : UInt8)]))), (Value.string (ByteArray.mk (Array.mk [(97 : UInt8), (98 : UInt8), (99 : UInt8)]))), (Value.string (ByteArray.mk (Array.mk [(98 : UInt8)]))), (Value.string (ByteArray.mk (Array.mk [(98 : UInt8), (97 : UInt8)]))), (Value.string (ByteArray.mk (Array.mk [(115 : UInt8), (47 : UInt8), (97 : UInt8)]))), (Value.string (ByteArray.mk (Array.mk [(115 : UInt8), (47 : UInt8), (98 : UInt8)]))), (Value.string (ByteArray.mk (Array.mk [(115 : UInt8), (47 : UInt8), (99 : UInt8)]))), (Value.string (ByteArray.mk (Array.mk [(116 : UInt8)]))), (Value.string (ByteArray.mk (Array.mk [(117 : UInt8)]))), (Value.string (ByteArray.mk (Array.mk [(122 : UInt8)]))), (Value.string (ByteArray.mk (Array.mk [(122 : UInt8), (122 : UInt8)])))]), (Filler.val (Value.int IntKind.i64 (12 : Int))), (Filler.val (Value.int IntKind.i64 (0 : Int))), (Filler.me es)]) ∧ ((pairJ xs d14) ∧ (∀ (d15 : PaM), ((pairJ xs d15) → ((((decide ((d15.i) < (d15.n))) = true) → ((((0 : Int) ≤ (d15.i)) ∧ ((d15.i) < ((List.length keysV) : Int))) ∧ ((((std.mhas (Value.string (ByteArray.mk (Array.mk []))) (d15.es) (Value.string (eS keysV (Int.toNat (d15.i))))) = true) → ((((List.length ((d15.r) ++ [(Value.agg (Array.mk [(Value.string (eS keysV (Int.toNat (d15.i)))), (Value.string (std.dstr (std.mget (Value.string (ByteArray.mk (Array.mk []))) (Value.string (ByteArray.mk (Array.mk []))) (d15.es) (Value.string (eS keysV (Int.toNat (d15.i)))))))]))])) * 32) ≤ 140737488355328) ∧ ((((-9223372036854775808 : Int) ≤ ((d15.i) + (1 : Int))) ∧ (((d15.i) + (1 : Int)) ≤ (9223372036854775807 : Int))) ∧ (∃ (d19 : PaM), (([(Filler.dl (d19.r)), (Filler.dl keysV), (Filler.val (Value.int IntKind.i64 (d19.n))), (Filler.val (Value.int IntKind.i64 (d19.i))), (Filler.me (d19.es))] = [(Filler.dl ((d15.r) ++ [(Value.agg (Array.mk [(Value.string (eS keysV (Int.toNat (d15.i)))), (Value.string (std.dstr (std.mget (Value.string (ByteArray.mk (Array.mk []))) (Value.string (ByteArray.mk (Array.mk []))) (d15.es) (Value.string (eS keysV (Int.toNat (d15.i)))))))]))])), (Filler.dl keysV), (Filler.val (Value.int IntKind.i64 (d15.n))), (Filler.val (Value.int IntKind.i64 ((d15.i) + (1 : Int)))), (Filler.me (d15.es))]) ∧ ((Nat.le (Nat.succ ((fun d : PaM => (d.n - d.i).toNat) d19)) ((fun d : PaM => (d.n - d.i).toNat) d15)) ∧ (pairJ xs d19))))))) ∧ (((std.mhas (Value.string (ByteArray.mk (Array.mk []))) (d15.es) (Value.string (eS keysV (Int.toNat (d15.i))))) = false) → ((((-9223372036854775808 : Int) ≤ ((d15.i) + (1 : Int))) ∧ (((d15.i) + (1 : Int)) ≤ (9223372036854775807 : Int))) ∧ (∃ (d19 : PaM), (([(Filler.dl (d19.r)), (Filler.dl keysV), (Filler.val (Value.int IntKind.i64 (d19.n))), (Filler.val (Value.int IntKind.i64 (d19.i))), (Filler.me (d19.es))] = [(Filler.dl (d15.r)), (Filler.dl keysV), (Filler.val (Value.int IntKind.i64 (d15.n))), (Filler.val (Value.int IntKind.i64 ((d15.i) + (1 : Int)))), (Filler.me (d15.es))]) ∧ ((Nat.le (Nat.succ ((fun d : PaM => (d.n - d.i).toNat) d19)) ((fun d : PaM => (d.n - d.i).toNat) d15)) ∧ (pairJ xs d19))))))))) ∧ (((decide ((d15.i) < (d15.n))) = false) → ([(dsl zP (d15.r))] = [(dsl zP (kvF.pairs xs))])))))))) := by
  refine ⟨⟨[], 12, 0, es⟩, rfl, ⟨rfl, he, 0, rfl, Nat.zero_le _, rfl⟩, fun d ⟨hn, hes, i, hi, hle, hr⟩ => ⟨fun h => ?_, fun h => ?_⟩⟩
  · have h := of_decide_eq_true h
    have hlt : i < 12 := by omega
    have hlen := outL_len d.es i
    have ho : outL d.es (i + 1) = if mhas zS d.es (.string (eS keysV i)) then outL d.es i ++ [prV (eS keysV i) (dstr (mget zS zS d.es (.string (eS keysV i))))] else outL d.es i := rfl
    rw [hi, Int.toNat_natCast]
    refine ⟨⟨by omega, by rw [keysV_len]; omega⟩, fun e => ⟨?_, by omega, ⟨d.r ++ [prV (eS keysV i) (dstr (mget zS zS d.es (.string (eS keysV i))))], d.n, (i : Int) + 1, d.es⟩, rfl, ?_, hn, hes, i + 1, rfl, hlt, ?_⟩, fun e => ⟨by omega, ⟨d.r, d.n, (i : Int) + 1, d.es⟩, rfl, ?_, hn, hes, i + 1, rfl, hlt, ?_⟩⟩
    · rw [hr, List.length_append]; show ((outL d.es i).length + 1) * 32 ≤ _; omega
    · show (d.n - ((i : Int) + 1)).toNat + 1 ≤ (d.n - d.i).toNat; omega
    · show d.r ++ _ = outL d.es (i + 1)
      rw [ho, if_pos (show mhas zS d.es (.string (eS keysV i)) = true from e), hr]
    · show (d.n - ((i : Int) + 1)).toNat + 1 ≤ (d.n - d.i).toNat; omega
    · show d.r = outL d.es (i + 1)
      rw [ho, if_neg (by rw [show mhas zS d.es (.string (eS keysV i)) = false from e]; exact Bool.false_ne_true), hr]
  · have h := of_decide_eq_false h
    show [dsl zP d.r] = [dsl zP (pairsF xs)]
    rw [hr, hes, show i = 12 by omega]; rfl
theorem pairs_run (xs : List Value) (hx : IntsOk xs) : Holds (runP std (pairsCon std kvF) 60 (pairsLs xs keysV (pairI xs) (fun d => ((xs.length : Int) - d.i).toNat) (pairJ xs) fun d => (d.n - d.i).toNat) (pairsP std kvF) 12 Try.f12 (xs, ())) := by
  constructor
  rw [pairs_vc]
  refine ⟨⟨0, []⟩, rfl, ⟨0, rfl, Nat.zero_le _, Nat.zero_le _, rfl⟩, fun d ⟨i, hi, hle, h12, hes⟩ => ⟨fun h => ⟨fun h1 => ?_, fun h1 => ?_⟩, fun h => ?_⟩⟩
  · have h := of_decide_eq_true h
    have h1 := of_decide_eq_true h1
    have hlt : i < xs.length := by omega
    have hv := hx i hlt
    have hq := tdiv_small hv
    rw [hi, Int.toNat_natCast]
    refine ⟨by omega, hv, by omega, ⟨by omega, hv⟩, hq, by omega, ⟨(i : Int) + 1, esF xs (i + 1)⟩, ?_, ?_, i + 1, rfl, hlt, by omega, rfl⟩
    · rw [esF_next, ← hes]; rfl
    · show ((xs.length : Int) - ((i : Int) + 1)).toNat + 1 ≤ ((xs.length : Int) - (i : Int)).toNat; omega
  · have h := of_decide_eq_true h
    have h1 := of_decide_eq_false h1
    exact pairs2 xs (by rw [hes]; congr 1; omega)
  · have h := of_decide_eq_false h
    exact pairs2 xs (by rw [hes]; congr 1; omega)
theorem pairsCon_ok : ConOk Try.prog (pairsCon std kvF) := draw_ok (noCon_ok _) fun x hx => by
  simp only [List.mem_cons, List.not_mem_nil, or_false] at hx
  rcases hx with rfl | rfl
  · exact dcon_ok rfl key_ok
  · exact dcon_ok rfl txt_ok
theorem pairs_ok : PFOk Try.prog 12 (pairsP std kvF) :=
  pf_ok (LS := fun d => pairsLs d.1 keysV (pairI d.1) (fun e => ((d.1.length : Int) - e.i).toNat) (pairJ d.1) fun e => (e.n - e.i).toNat) Try.progOk pairsCon_ok (inCallF_ok 60) (pairsP std kvF) Try.func12 (show _ = some (bodyS Try.prog 12) by kernel_rfl) fun d hd => by
    obtain ⟨h⟩ := pairs_run d.1 hd
    exact h
/-- Values are among the texts. -/
theorem txt_small (n : Int) : lenB (txtF n) ≤ 8 := by
  have : ∀ k, k < 5 → lenB (eS txtsV k) ≤ 8 := by decide +kernel
  exact this _ (by omega)
def ValsOk (es : List (Value × Value)) : Prop := ∀ e ∈ es, ∃ s, e.2 = .string s ∧ lenB s ≤ 8
theorem mput_vals {kz k : Value} {s : ByteArray} (hs : lenB s ≤ 8) : ∀ {es : List (Value × Value)}, ValsOk es → ValsOk (mput kz es k (.string s))
  | [], _, e, he => by rw [List.mem_singleton.1 he]; exact ⟨s, rfl, hs⟩
  | e0 :: es, h, e, he => by
    unfold mput at he
    split at he
    · rcases List.mem_cons.1 he with rfl | he
      · exact ⟨s, rfl, hs⟩
      · exact h e (List.mem_cons_of_mem _ he)
    · rcases List.mem_cons.1 he with rfl | he
      · exact h _ (List.mem_cons_self ..)
      · exact mput_vals hs (fun e he => h e (List.mem_cons_of_mem _ he)) e he
theorem es_vals (xs : List Value) : ∀ n, ValsOk (esF xs n)
  | 0, e, he => by cases he
  | n + 1, e, he => mput_vals (txt_small _) (es_vals xs n) e he
theorem mget_small {kz k : Value} : ∀ {es : List (Value × Value)}, ValsOk es → lenB (dstr (mget kz zS es k)) ≤ 8
  | [], _ => by show 0 ≤ 8; omega
  | e0 :: es, h => by
    by_cases c : keyB kz e0.1 k = true
    · obtain ⟨s, h1, h2⟩ := h e0 (List.mem_cons_self ..)
      have : mget kz zS (e0 :: es) k = e0.2 := by unfold mget mfind; rw [if_pos c]; rfl
      rw [this, h1]; exact h2
    · have : mget kz zS (e0 :: es) k = mget kz zS es k := by unfold mget; rw [show mfind kz (e0 :: es) k = mfind kz es k by rw [mfind, if_neg c]]
      rw [this]
      exact mget_small fun e he => h e (List.mem_cons_of_mem _ he)
theorem out_mem {es : List (Value × Value)} (h : ValsOk es) : ∀ {i : Nat} {x : Value}, x ∈ outL es i → ∃ j s, j < i ∧ x = prV (eS keysV j) s ∧ lenB s ≤ 8
  | 0, x, hx => by cases hx
  | i + 1, x, hx => by
    unfold outL at hx
    split at hx
    · rcases List.mem_append.1 hx with hx | hx
      · obtain ⟨j, s, h1, h2⟩ := out_mem h hx
        exact ⟨j, s, by omega, h2⟩
      · exact ⟨i, _, by omega, List.mem_singleton.1 hx, mget_small h⟩
    · obtain ⟨j, s, h1, h2⟩ := out_mem h hx
      exact ⟨j, s, by omega, h2⟩
theorem keys_rise : ∀ j, j < 12 → ∀ i, i < j → ltB (eS keysV i) (eS keysV j) = true := by decide +kernel
theorem keys_small : ∀ j, j < 12 → eqB (eS keysV j) noB = false ∧ lenB (eS keysV j) ≤ 16 := by decide +kernel
theorem out_ord {es : List (Value × Value)} (h : ValsOk es) : ∀ {i : Nat}, i ≤ 12 → Ord (outL es i)
  | 0, _ => List.Pairwise.nil
  | i + 1, hi => by
    have ih := out_ord h (i := i) (by omega)
    unfold outL
    split
    · refine List.pairwise_append.2 ⟨ih, List.pairwise_singleton _ _, fun a ha b hb => ?_⟩
      obtain ⟨j, s, h1, rfl, h3⟩ := out_mem h ha
      rw [List.mem_singleton.1 hb]
      exact keys_rise i (by omega) j h1
    · exact ih
theorem pairs_right (xs : List Value) : RightL (pairsF xs) := by
  have hv := es_vals xs (min xs.length 12)
  have hm := fun {x} => out_mem hv (i := 12) (x := x)
  refine ⟨(right_iff _).2 ⟨fun x hx => ?_, out_ord hv (Nat.le_refl _), ?_⟩, fun x hx => ?_⟩
  · obtain ⟨j, s, h1, rfl, h3⟩ := hm hx
    have := keys_small j h1
    show mayF (eS keysV j) s = true
    unfold mayF
    rw [this.1, decide_eq_true (by omega), decide_eq_true (by omega)]; rfl
  · have := outL_len (esF xs (min xs.length 12)) 12
    show (outL _ 12).length ≤ 30
    omega
  · obtain ⟨j, s, h1, rfl, h3⟩ := hm hx
    rfl
end Go.Proofs.Ytolkoacllaaceaa
end
section
namespace Go.Proofs.Ytolkoacllaaceaa
open Go.RowKit Go.Abs Go
set_option maxHeartbeats 1000000 in
theorem clone_none (n c : Nat) (w : World) : Calls Try.prog 28 #[.slice none n c] w fun e w' => e = .returned (.slice none 0 0) ∧ w' = w := by
  have q22 : ∀ (w : World) (a : Option Addr) (n c n' c' : Nat), (binOp .eql 22 (.slice a n c) (.slice none n' c')).run Try.prog w = .ok (.bool a.isNone) w := fun w a n c n' c' => Lib.run_eql_slice_nil w _ _ a n c n' c' Try.underlying22
  go_enter Try.func28, Try.ntmps28
  go_wp2
  go_ret
  exact ⟨rfl, rfl⟩
/-- Nothing appended to an empty literal. -/
theorem app_nothing (w : World) (b : Addr) (ty : TypeId) (a : Option Addr) (c : Nat) : (Builtin.append_ #[22, 22] ty #[.slice (some b) 0 0, .slice a 0 c]).run Try.prog w = .ok (.slice (some b) 0 0) w := by
  have i1 : ((Try.prog.info? 26).bind fun i => i.zero) = some zP := by kernel_rfl
  have i2 : ((Try.prog.info? 26).map fun i => (i.size, i.bytes)) = some (2, 32) := by kernel_rfl
  cases hi : Try.prog.info? 26 with
  | none => rw [hi] at i2; cases i2
  | some i0 =>
    rw [hi] at i1 i2
    simp only [Option.bind_some, Option.map_some, Option.some.injEq, Prod.mk.injEq] at i1 i2
    have fc : ∀ w : World, (Builtin.firstCells i0.size 0 (.slice a 0 c)).run Try.prog w = .ok #[] w := fun w => by
      cases a with
      | none => exact run_firstCells_none w i0.size 0 0 c
      | some a => exact run_firstCells_some w i0.size 0 a 0 c [] (by simp) (fun j v hj => by simp at hj)
    obtain ⟨h1, _⟩ := append_run (P := Try.prog) (w := w) (argTypes := #[22, 22]) (ty := ty) (st := 22) (xt := 22) (e := 26) (args := #[.slice (some b) 0 0, .slice a 0 c]) (bs := some b) (sLen := 0) (sCap := 0) (m := 0) (x := .slice a 0 c) (i := i0) (z := zP) (news := #[])
      rfl rfl rfl rfl Try.underlying22 hi i1 (by rw [i2.1]; rfl) (by omega) (by omega) ⟨.inr ⟨.inr ⟨_, Try.underlying22⟩, fun w0 => rfl, fc w, fc w.drew⟩⟩
    rw [h1 (Nat.le_refl _)]
    rfl
set_option maxHeartbeats 1000000 in
theorem clone_some (a : Addr) (c : Nat) (w : World) : Calls Try.prog 28 #[.slice (some a) 0 c] w fun e w' => e = .returned (.slice (some ⟨w.heap.size, 0, none⟩) 0 0) ∧ Below w.heap.size w w' ∧ w.heap.size ≤ w'.heap.size := by
  have q22 : ∀ (w : World) (a : Option Addr) (n c n' c' : Nat), (binOp .eql 22 (.slice a n c) (.slice none n' c')).run Try.prog w = .ok (.bool a.isNone) w := fun w a n c n' c' => Lib.run_eql_slice_nil w _ _ a n c n' c' Try.underlying22
  go_enter Try.func28, Try.ntmps28
  go_wp2_with (at_builtin; refine Lib.wpList_append_run_sl _ rfl _ _ _ rfl _ _ rfl rfl (app_nothing _ _ _ _ _) ?_)
  go_wp2
  go_ret
  exact ⟨rfl, (Below.refl _ w).alloc (Nat.le_refl _) _, by simp⟩
theorem clone_ok : PFOk Try.prog 28 (cloneP std) := by
  refine ⟨fun {zf base w} hbase hz0 {d} hpre {xs} hraw {args'} hl => ?_⟩
  obtain ⟨ys, u⟩ := d
  by_cases hy : ys = []
  · subst hy
    have hx : xs = [dsl zP []] := by
      have e : rawVs deep0 (cloneP std).zs ((cloneP std).args (([] : List Value), ())) = some [dsl zP []] := rfl
      rw [show rawVs deep0 (cloneP std).zs ((cloneP std).args (([] : List Value), u)) = some [dsl zP []] from e] at hraw
      exact (Option.some.inj hraw).symm
    subst hx
    obtain ⟨v, l, e, r, hl⟩ := hl.inv_cons
    have := hl.inv_nil; subst this
    have hv : ∃ a k, v = .slice a 0 k := by
      rcases r with ⟨_, r⟩ | ⟨_, _, e, _⟩
      · rcases r.inv with ⟨_, a, k, e⟩ | ⟨c, o, k, val, e, _⟩
        · exact ⟨a, k, e⟩
        · exact ⟨_, _, e⟩
      · simp [dsl] at e
    obtain ⟨a, k, rfl⟩ := hv
    have : args' = #[.slice a 0 k] := Array.toList_inj.1 e
    subst this
    obtain ⟨c, hb⟩ : ∃ c, Try.f28.body = some c := ⟨_, rfl⟩
    have hn := Try.progOk.name Try.func28
    refine .inr ⟨by simp [callFunc, Try.func28, hn, hb], ?_⟩
    have fin : ∀ {a' : Option Addr} {w' : World}, Below w.heap.size w w' → ∃ v', Ending.returned (.slice a' 0 0) = .returned v' ∧ ∃ z2 tk, POut zf base w (cloneP std) (([] : List Value), u) v' w' z2 tk := fun {a' w'} hbl => by
      refine ⟨_, rfl, zf, none, hbl, fun _ _ _ h => h, fun _ _ _ h => .inl h, fun c i a h => ?_, fun {μ b} hz ht => ?_, fun _ b => rfl, fun p h => by cases h⟩
      · obtain ⟨arr', e', fr', h2, h3⟩ := hz0 c i a h
        exact ⟨arr', e', fr', (hbl.block c (Array.getElem?_eq_some_iff.1 h2).1).trans h2, h3⟩
      · show VR μ (osl zP [] b) _
        exact .zero (.osl .nil rfl (.inl rfl))
    cases a with
    | none =>
      refine (clone_none 0 k w).mono ?_
      rintro en w' ⟨rfl, rfl⟩
      exact fin (Below.refl _ _)
    | some a =>
      refine (clone_some a k w).mono ?_
      rintro en w' ⟨rfl, hbl, _⟩
      exact fin hbl
  · exact pf_out (LS := noL) Try.progOk (noCon_ok _) (inCallF_ok 60) (cloneP std) Try.func28 (show _ = some (bodyS Try.prog 28) by kernel_rfl) (n := 40) (clone_run ys hy hpre) hbase hz0 hraw hl
theorem rngCon_ok : ConOk Try.prog (rngCon std kvF) := conL_ok fun x hx => by
  simp only [List.mem_cons, List.not_mem_nil, or_false] at hx
  rcases hx with rfl | rfl
  · exact pcon_ok bs_ok
  · exact pcon_ok clone_ok
theorem rng_ok : PFOk Try.prog 8 (rngP std kvF) :=
  pf_ok (LS := fun _ => noL) Try.progOk rngCon_ok (inCallF_ok 60) (rngP std kvF) Try.func8 (show _ = some (bodyS Try.prog 8) by kernel_rfl) fun d hd => rng_run d.1 d.2.1 d.2.2.1 hd
end Go.Proofs.Ytolkoacllaaceaa
end
section
namespace Go.Proofs.Ytolkoacllaaceaa
open Go.RowKit Go.Abs Go
theorem shr7' (n : Int) : std.shr .i64 n 7 = n / 128 := by
  show n.fdiv 128 = n / 128
  exact Int.fdiv_eq_ediv_of_nonneg n (by omega)
theorem oneL_len : ∀ (f : Nat) (n : Int), (oneL f n).length ≤ f
  | 0, _ => Nat.le_refl _
  | f + 1, n => by
    unfold oneL
    split
    · have := oneL_len f (std.shr .i64 n 7)
      simp; omega
    · simp
def oneI (n : Int) (d : OneL) : Prop := ∃ f : Nat, d.r ++ oneL (f + 1) d.n = oneF n ∧ 0 ≤ d.n ∧ d.n < 128 ^ (f + 1) ∧ d.r.length + f ≤ 6
theorem one_run (n : Int) (hn : 0 ≤ n ∧ n ≤ 1099511627775) : runP std noCon 40 (oneLs (oneI n) fun d => d.n.toNat) (oneP std kvF) 35 Try.f35 (n, ()) := by
  rw [one_vc]
  refine ⟨fun h => ?_, fun _ => ⟨fun h => ?_, fun _ => ⟨⟨n, []⟩, rfl, ⟨6, rfl, hn.1, ?_, by simp⟩, fun d ⟨f, h1, h2, h3, h4⟩ => ⟨fun h => ?_, fun h => ?_⟩⟩⟩⟩
  · have h := of_decide_eq_true h; omega
  · have h := of_decide_eq_true h; omega
  · show n < 128 ^ 7
    omega
  · have h := of_decide_eq_true h
    obtain ⟨f, rfl⟩ : ∃ f', f = f' + 1 := by
      cases f with
      | zero => simp at h3; omega
      | succ f => exact ⟨f, rfl⟩
    have e : oneL (f + 1 + 1) d.n = .int .u8 (std.wrap .u8 (std.bor .i64 (std.band .i64 d.n 127) 128)) :: oneL (f + 1) (std.shr .i64 d.n 7) := by
      conv => lhs; unfold oneL
      rw [if_pos h]
    rw [e] at h1
    refine ⟨?_, by decide, ⟨_, _⟩, rfl, ?_, f, ?_, ?_, ?_, ?_⟩
    · simp only [List.length_append, List.length_cons, List.length_nil]; omega
    · show (std.shr .i64 d.n 7).toNat + 1 ≤ d.n.toNat
      rw [shr7']; omega
    · show (d.r ++ [_]) ++ oneL (f + 1) (std.shr .i64 d.n 7) = oneF n
      rw [List.append_assoc]; exact h1
    · show 0 ≤ std.shr .i64 d.n 7
      rw [shr7']; omega
    · show std.shr .i64 d.n 7 < 128 ^ (f + 1)
      rw [shr7', Int.ediv_lt_iff_lt_mul (by omega)]
      rw [Int.pow_succ] at h3
      exact h3
    · simp only [List.length_append, List.length_cons, List.length_nil]; omega
  · have h : ¬ 127 < d.n := of_decide_eq_false h
    have e : oneL (f + 1) d.n = [.int .u8 (std.wrap .u8 d.n)] := by unfold oneL; rw [if_neg h]
    rw [e] at h1
    refine ⟨?_, ?_⟩
    · simp only [List.length_append, List.length_cons, List.length_nil]; omega
    · show [dsl (.int .u8 0) (d.r ++ [.int .u8 (std.wrap .u8 d.n)])] = [dsl (.int .u8 0) (oneF n)]
      rw [h1]
def textL (xs : List Value) : Nat → List Value
  | 0 => []
  | i + 1 => textL xs i ++ (oneF (lenB (eS xs i) : Int) ++ std.svals (eS xs i))
theorem textL_eq (xs : List Value) : ∀ n, textL xs n = (List.range n).flatMap fun i => oneF (lenB (eS xs i) : Int) ++ std.svals (eS xs i)
  | 0 => rfl
  | n + 1 => by unfold textL; rw [textL_eq xs n, List.range_succ, List.flatMap_append]; simp
theorem svals_len (s : ByteArray) : (std.svals s).length = lenB s := List.length_map ..
theorem textL_len {xs : List Value} (hl : ∀ i, i < xs.length → lenB (eS xs i) ≤ 1000000) : ∀ i, i ≤ xs.length → (textL xs i).length ≤ i * 1000007
  | 0, _ => by simp [textL]
  | i + 1, h => by
    have h1 := textL_len hl i (by omega)
    have h2 := hl i (by omega)
    have h3 := oneL_len 7 (lenB (eS xs i) : Int)
    unfold textL
    rw [List.length_append, List.length_append, svals_len]
    show _ + ((oneL 7 _).length + _) ≤ _
    omega
theorem text_run (xs : List Value) (hx : xs.length ≤ 2) (hl : ∀ i, i < xs.length → lenB (eS xs i) ≤ 1000000) : runP std (textCon std kvF) 40 (textLs xs (fun d => d.n = xs.length ∧ ∃ i : Nat, d.i = i ∧ i ≤ xs.length ∧ d.r = textL xs i) fun d => (d.n - d.i).toNat) (textP std kvF) 30 Try.f30 (xs, ()) := by
  rw [text_vc]
  refine ⟨⟨[], xs.length, 0⟩, rfl, ⟨rfl, 0, rfl, Nat.zero_le _, rfl⟩, fun d ⟨hn, i, hi, hle, hr⟩ => ⟨fun h => ?_, fun h => ?_⟩⟩
  · have h := of_decide_eq_true h
    have h1 := hl i (by omega)
    have h2 := textL_len hl i hle
    have h3 := oneL_len 7 (lenB (eS xs i) : Int)
    have h4 : (textL xs i).length ≤ 2000014 := by omega
    have e1 : kvF.one (std.slen (eS xs i) : Int) = oneL 7 (lenB (eS xs i) : Int) := rfl
    have e2 : std.slen (eS xs i) = lenB (eS xs i) := rfl
    rw [hi, Int.toNat_natCast, hr, e1, e2]
    refine ⟨by omega, by omega, ?_, ?_, by omega, ⟨_, d.n, (i : Int) + 1⟩, rfl, ?_, hn, i + 1, rfl, by omega, ?_⟩
    · rw [List.length_append]; omega
    · rw [List.length_append, List.length_append, svals_len]; omega
    · show (d.n - ((i : Int) + 1)).toNat + 1 ≤ (d.n - (i : Int)).toNat
      omega
    · show textL xs i ++ oneL 7 _ ++ std.svals (eS xs i) = textL xs (i + 1)
      rw [List.append_assoc]; rfl
  · have h := of_decide_eq_false h
    rw [hr, show i = xs.length by omega]
    show [dsl (.int .u8 0) (textL xs xs.length)] = [dsl (.int .u8 0) (textF xs)]
    rw [textL_eq]; rfl
theorem leaf_run (k v : ByteArray) (hk : lenB k ≤ 1000000) (hv : lenB v ≤ 1000000) : runP std (leafCon std kvF) 40 noL (leafP std kvF) 23 Try.f23 ((k, v, ()), ()) := by
  rw [leaf_vc]
  refine ⟨⟨Nat.le_refl 2, fun i hi => ?_⟩, rfl⟩
  match i, hi with
  | 0, _ => exact hk
  | 1, _ => exact hv
theorem svals_inj {s t : ByteArray} (h : std.svals s = std.svals t) : s = t := by
  have h : (s.data.toList.map fun b : UInt8 => Value.int .u8 b.toNat) = t.data.toList.map fun b : UInt8 => Value.int .u8 b.toNat := h
  have : s.data.toList = t.data.toList := by
    refine List.map_inj_right (fun a b e => ?_) |>.1 h
    simp only [Value.int.injEq, true_and] at e
    rw [u8_eq']; omega
  exact eqB_iff.1 (by unfold eqB; rw [this]; exact beq_self_eq_true _)
where u8_eq' {a b : UInt8} : a = b ↔ a.toNat = b.toNat := UInt8.toNat_inj.symm
/-- Small texts tell what they were made of. -/
theorem leaf_inj {k v k' v' : ByteArray} (h1 : lenB k ≤ 127) (h2 : lenB k' ≤ 127) (h : leafF k v = leafF k' v') : k = k' := by
  have small : ∀ s : ByteArray, lenB s ≤ 127 → oneF (lenB s : Int) = [.int .u8 (lenB s : Int)] := fun s hs => by
    unfold oneF oneL
    rw [if_neg (by omega)]
    have : std.wrap .u8 (lenB s : Int) = (lenB s : Int) := by
      show (lenB s : Int) % 256 = _
      omega
    rw [this]
  have e : ∀ a b : ByteArray, leafF a b = oneF (lenB a : Int) ++ std.svals a ++ (oneF (lenB b : Int) ++ std.svals b ++ []) := fun a b => rfl
  rw [e, e, small k h1, small k' h2] at h
  simp only [List.cons_append, List.nil_append, List.cons.injEq, Value.int.injEq, true_and] at h
  exact svals_inj (List.append_inj h.2 (by rw [svals_len, svals_len]; omega)).1
end Go.Proofs.Ytolkoacllaaceaa
end
section
namespace Go.Proofs.Ytolkoacllaaceaa
open Go.RowKit Go.Abs Go
theorem sameb_ok : PFOk Try.prog 22 (samebP std kvF) :=
  pf_ok Try.progOk (noCon_ok _) (inCallF_ok 60) (samebP std kvF) Try.func22 (show _ = some (bodyS Try.prog 22) by kernel_rfl) fun d hd => sameb_run d.1 d.2.1 hd
theorem one_ok : PFOk Try.prog 35 (oneP std kvF) :=
  pf_ok (LS := fun d => oneLs (oneI d.1) fun e => e.n.toNat) Try.progOk (noCon_ok _) (inCallF_ok 60) (oneP std kvF) Try.func35 (show _ = some (bodyS Try.prog 35) by kernel_rfl) fun d hd => one_run d.1 hd
theorem textCon_ok : ConOk Try.prog (textCon std kvF) := conL_ok fun x hx => by rw [List.mem_singleton.1 hx]; exact pcon_ok one_ok
theorem text_ok : PFOk Try.prog 30 (textP std kvF) :=
  pf_ok (LS := fun d => textLs d.1 (fun e => e.n = d.1.length ∧ ∃ i : Nat, e.i = i ∧ i ≤ d.1.length ∧ e.r = textL d.1 i) fun e => (e.n - e.i).toNat) Try.progOk textCon_ok (inCallF_ok 60) (textP std kvF) Try.func30 (show _ = some (bodyS Try.prog 30) by kernel_rfl) fun d hd => text_run d.1 hd.1 hd.2
theorem leafCon_ok : ConOk Try.prog (leafCon std kvF) := conL_ok fun x hx => by rw [List.mem_singleton.1 hx]; exact pcon_ok text_ok
theorem leaf_ok : PFOk Try.prog 23 (leafP std kvF) :=
  pf_ok (LS := fun _ => noL) Try.progOk leafCon_ok (inCallF_ok 60) (leafP std kvF) Try.func23 (show _ = some (bodyS Try.prog 23) by kernel_rfl) fun d hd => leaf_run d.1.1 d.1.2.1 hd.1 hd.2
end Go.Proofs.Ytolkoacllaaceaa
end
section
namespace Go.Proofs.Ytolkoacllaaceaa
open Go.RowKit Go.Abs Go
theorem bs_idx {l : List Value} (ho : Ord l) (k : ByteArray) : ∃ r : Nat, bsF l k = r ∧ r ≤ l.length ∧ (∀ i, i < r → ltB (kP l i) k = true) ∧ ∀ i, r ≤ i → i < l.length → ltB (kP l i) k = false := by
  have hr := bsF_range l k
  have hb := bs_rfirst k ho
  obtain ⟨h1, h2, h3, h4⟩ := firstN_ok (fun i => ltB (kP l i) k) l.length 0
  generalize hR : firstN (fun i => ltB (kP l i) k) l.length 0 = r at h1 h2 h3 h4
  have he : bsF l k = r := by rw [hb]; unfold rfirstF; rw [hR]
  refine ⟨r, he, by omega, fun i hi => h3 i (Nat.zero_le _) hi, fun i h5 h6 => ?_⟩
  cases hc : ltB (kP l i) k with
  | false => rfl
  | true =>
    have h7 := h4 (by omega)
    rcases Nat.lt_or_ge r i with h | h
    · rw [mono_of k ho r i h h6 hc] at h7; cases h7
    · rw [show i = r by omega] at hc; rw [hc] at h7; cases h7
theorem filter_idx {l : List Value} {p : Value → Bool} {i0 i1 : Nat} (h0 : i0 ≤ i1) (h1 : i1 ≤ l.length) (hp : ∀ i (h : i < l.length), p l[i] = decide (i0 ≤ i ∧ i < i1)) : l.filter p = (l.drop i0).take (i1 - i0) := by
  have hs : l = l.take i0 ++ ((l.drop i0).take (i1 - i0) ++ l.drop i1) := by
    conv => lhs; rw [← List.take_append_drop i0 l]
    congr 1
    conv => lhs; rw [← List.take_append_drop (i1 - i0) (l.drop i0)]
    rw [List.drop_drop, show i0 + (i1 - i0) = i1 by omega]
  conv => lhs; rw [hs]
  rw [List.filter_append, List.filter_append]
  have e1 : (l.take i0).filter p = [] := List.filter_eq_nil_iff.2 fun x hx => by
    obtain ⟨i, hi, rfl⟩ := List.getElem_of_mem hx
    rw [List.length_take] at hi
    rw [List.getElem_take, hp i (by omega), decide_eq_false (by omega)]; exact Bool.false_ne_true
  have e2 : ((l.drop i0).take (i1 - i0)).filter p = (l.drop i0).take (i1 - i0) := List.filter_eq_self.2 fun x hx => by
    obtain ⟨i, hi, rfl⟩ := List.getElem_of_mem hx
    rw [List.length_take, List.length_drop] at hi
    rw [List.getElem_take, List.getElem_drop, hp _ (by omega)]
    exact decide_eq_true (by omega)
  have e3 : (l.drop i1).filter p = [] := List.filter_eq_nil_iff.2 fun x hx => by
    obtain ⟨i, hi, rfl⟩ := List.getElem_of_mem hx
    rw [List.length_drop] at hi
    rw [List.getElem_drop, hp _ (by omega), decide_eq_false (by omega)]; exact Bool.false_ne_true
  rw [e1, e2, e3]; simp
def inRange (a b : ByteArray) (x : Value) : Bool := !ltB (keyV x) a && ltB (keyV x) b
theorem rng_filter {l : List Value} (ho : Ord l) (a b : ByteArray) : rngF l a b = l.filter (inRange a b) := by
  obtain ⟨ia, ha, hla, a1, a2⟩ := bs_idx ho a
  obtain ⟨ib, hb, hlb, b1, b2⟩ := bs_idx ho b
  unfold rngF
  rw [ha, hb, filter_idx (i0 := ia) (i1 := max ia ib) (by omega) (by omega) fun i hi => ?_]
  · rw [Int.toNat_natCast, show (max (ia : Int) (ib : Int)).toNat = max ia ib by omega]
  · unfold inRange
    rw [← kP_get hi]
    by_cases h1 : i < ia
    · rw [a1 i h1, decide_eq_false (by omega)]; rfl
    · rw [a2 i (by omega) hi]
      by_cases h2 : i < ib
      · rw [b1 i h2, decide_eq_true (by omega)]; rfl
      · rw [b2 i (by omega) hi, decide_eq_false (by omega)]; rfl
theorem bs_mono {l : List Value} (ho : Ord l) {a b : ByteArray} (h : (ltB a b || eqB a b) = true) : bsF l a ≤ bsF l b := by
  obtain ⟨ia, ha, hla, a1, a2⟩ := bs_idx ho a
  obtain ⟨ib, hb, hlb, b1, b2⟩ := bs_idx ho b
  rw [ha, hb]
  rcases Nat.lt_or_ge ib ia with hlt | hge
  · exfalso
    have h1 := a1 ib hlt
    have h2 := b2 ib (Nat.le_refl _) (by omega)
    rw [Bool.or_eq_true] at h
    rcases h with h | h
    · rw [lt_trans h1 h] at h2; cases h2
    · rw [← eqB_iff.1 h, h1] at h2; cases h2
  · omega
theorem rng_join {l : List Value} (ho : Ord l) {a b c : ByteArray} (h1 : (ltB a b || eqB a b) = true) (h2 : (ltB b c || eqB b c) = true) : rngF l a b ++ rngF l b c = rngF l a c := by
  have m1 := bs_mono ho h1
  have m2 := bs_mono ho h2
  have r1 := bsF_range l a
  unfold rngF
  rw [show max (bsF l a) (bsF l b) = bsF l b by omega, show max (bsF l b) (bsF l c) = bsF l c by omega, show max (bsF l a) (bsF l c) = bsF l c by omega]
  have e : l.drop (bsF l b).toNat = (l.drop (bsF l a).toNat).drop ((bsF l b).toNat - (bsF l a).toNat) := by
    rw [List.drop_drop]; congr 1; omega
  rw [e, ← List.take_add]
  congr 1; omega
theorem rng_len {l : List Value} (hl : l.length ≤ 1000000) (a b : ByteArray) : (rngF l a b).length ≤ l.length := by
  unfold rngF
  rw [List.length_take, List.length_drop]; omega
/-- The next of a range. -/
theorem filter_next {l : List Value} {p : Value → Bool} {i : Nat} (hi : i < l.length) (hp : p l[i] = true) : ((l.take i).filter p).length < (l.filter p).length ∧ kP (l.filter p) ((l.take i).filter p).length = kP l i ∧ vP (l.filter p) ((l.take i).filter p).length = vP l i ∧ ((l.take (i + 1)).filter p).length = ((l.take i).filter p).length + 1 := by
  have hs : l.filter p = (l.take i).filter p ++ (l[i] :: (l.drop (i + 1)).filter p) := by
    conv => lhs; rw [← List.take_append_drop i l, List.drop_eq_getElem_cons hi]
    rw [List.filter_append, List.filter_cons, if_pos hp]
  have hlt : ((l.take i).filter p).length < (l.filter p).length := by rw [hs]; simp
  have hg : (l.filter p)[((l.take i).filter p).length]'hlt = l[i] := by
    have : (l.filter p)[((l.take i).filter p).length]? = some l[i] := by rw [hs, List.getElem?_append_right (Nat.le_refl _)]; simp
    rw [List.getElem?_eq_getElem hlt] at this
    exact Option.some.inj this
  refine ⟨hlt, by rw [kP_get hlt, kP_get hi, hg], by rw [vP_get hlt, vP_get hi, hg], ?_⟩
  rw [List.take_add_one, List.getElem?_eq_getElem hi, Option.toList_some, List.filter_append, List.length_append]
  simp [List.filter, hp]
theorem filter_skip {l : List Value} {p : Value → Bool} {i : Nat} (hi : i < l.length) (hp : p l[i] = false) : ((l.take (i + 1)).filter p).length = ((l.take i).filter p).length := by
  rw [List.take_add_one, List.getElem?_eq_getElem hi, Option.toList_some, List.filter_append, List.length_append]
  simp [List.filter, hp]
end Go.Proofs.Ytolkoacllaaceaa
end
section
namespace Go.Proofs.Ytolkoacllaaceaa
open Go.Abs Go
set_option maxRecDepth 100000
def nestP (g : KvF) (xs ps : List Value) (J : NIL → Prop) (q : NIL → Nat) (G : RgC → Prop) (w : RgC → Nat) : Prop :=
  (∃ (e0 : NIL), (([(Filler.dl ps), (Filler.dl (g.pairs xs)), (Filler.val (Value.int IntKind.i64 (e0.n))), (Filler.val (Value.int IntKind.i64 (e0.i)))] = [(Filler.dl ps), (Filler.dl (g.pairs xs)), (Filler.val (Value.int IntKind.i64 ((List.length (g.pairs xs)) : Int))), (Filler.val (Value.int IntKind.i64 (0 : Int)))]) ∧ ((J e0) ∧ (∀ (e1 : NIL), ((J e1) → ((((decide ((e1.i) < (e1.n))) = true) → (∃ (e2 : RgC), (([(Filler.dl ps), (Filler.dl (g.pairs xs)), (Filler.val (Value.int IntKind.i64 (e2.a))), (Filler.val (Value.int IntKind.i64 (e2.n))), (Filler.val (Value.int IntKind.i64 (e2.i))), (Filler.val (Value.int IntKind.i64 (e2.m))), (Filler.val (Value.int IntKind.i64 (e2.e)))] = [(Filler.dl ps), (Filler.dl (g.pairs xs)), (Filler.val (Value.int IntKind.i64 (e1.i))), (Filler.val (Value.int IntKind.i64 (e1.n))), (Filler.val (Value.int IntKind.i64 (e1.i))), (Filler.val (Value.int IntKind.i64 ((List.length (g.pairs xs)) : Int))), (Filler.val (Value.int IntKind.i64 (0 : Int)))]) ∧ ((G e2) ∧ (∀ (e3 : RgC), ((G e3) → (([(Value.int IntKind.i64 (e3.a)), (Value.int IntKind.i64 (e3.n)), (Value.int IntKind.i64 (e3.i))] = [(Value.int IntKind.i64 (e2.a)), (Value.int IntKind.i64 (e2.n)), (Value.int IntKind.i64 (e2.i))]) → ((((decide ((e3.e) < (e3.m))) = true) → ((((0 : Int) ≤ (e3.a)) ∧ ((e3.a) < ((List.length (g.pairs xs)) : Int))) ∧ ((((std.slen (kP (g.pairs xs) (Int.toNat (e3.a)))) ≤ 1000000) ∧ ((std.slen (vP (g.pairs xs) (Int.toNat (e3.a)))) ≤ 1000000)) ∧ ((((0 : Int) ≤ (e3.e)) ∧ ((e3.e) < ((List.length (g.pairs xs)) : Int))) ∧ ((((std.slen (kP (g.pairs xs) (Int.toNat (e3.e)))) ≤ 1000000) ∧ ((std.slen (vP (g.pairs xs) (Int.toNat (e3.e)))) ≤ 1000000)) ∧ (((List.length (g.leaf (kP (g.pairs xs) (Int.toNat (e3.a))) (vP (g.pairs xs) (Int.toNat (e3.a))))) ≤ 1000000) ∧ ((((g.sameb (g.leaf (kP (g.pairs xs) (Int.toNat (e3.a))) (vP (g.pairs xs) (Int.toNat (e3.a)))) (g.leaf (kP (g.pairs xs) (Int.toNat (e3.e))) (vP (g.pairs xs) (Int.toNat (e3.e))))) = true) → (((((e3.a) == (e3.e)) = true) → ((((-9223372036854775808 : Int) ≤ ((e3.e) + (1 : Int))) ∧ (((e3.e) + (1 : Int)) ≤ (9223372036854775807 : Int))) ∧ (∃ (e4 : RgC), (([(Filler.dl ps), (Filler.dl (g.pairs xs)), (Filler.val (Value.int IntKind.i64 (e4.a))), (Filler.val (Value.int IntKind.i64 (e4.n))), (Filler.val (Value.int IntKind.i64 (e4.i))), (Filler.val (Value.int IntKind.i64 (e4.m))), (Filler.val (Value.int IntKind.i64 (e4.e)))] = [(Filler.dl ps), (Filler.dl (g.pairs xs)), (Filler.val (Value.int IntKind.i64 (e3.a))), (Filler.val (Value.int IntKind.i64 (e3.n))), (Filler.val (Value.int IntKind.i64 (e3.i))), (Filler.val (Value.int IntKind.i64 (e3.m))), (Filler.val (Value.int IntKind.i64 ((e3.e) + (1 : Int))))]) ∧ ((Nat.le (Nat.succ (w e4)) (w e3)) ∧ (([(Value.int IntKind.i64 (e4.a)), (Value.int IntKind.i64 (e4.n)), (Value.int IntKind.i64 (e4.i))] = [(Value.int IntKind.i64 (e2.a)), (Value.int IntKind.i64 (e2.n)), (Value.int IntKind.i64 (e2.i))]) ∧ (G e4))))))) ∧ ((((e3.a) == (e3.e)) = false) → ([(Value.bool false)] = [(Value.bool true)])))) ∧ (((g.sameb (g.leaf (kP (g.pairs xs) (Int.toNat (e3.a))) (vP (g.pairs xs) (Int.toNat (e3.a)))) (g.leaf (kP (g.pairs xs) (Int.toNat (e3.e))) (vP (g.pairs xs) (Int.toNat (e3.e))))) = false) → (((((e3.a) == (e3.e)) = true) → ([(Value.bool false)] = [(Value.bool true)])) ∧ ((((e3.a) == (e3.e)) = false) → ((((-9223372036854775808 : Int) ≤ ((e3.e) + (1 : Int))) ∧ (((e3.e) + (1 : Int)) ≤ (9223372036854775807 : Int))) ∧ (∃ (e4 : RgC), (([(Filler.dl ps), (Filler.dl (g.pairs xs)), (Filler.val (Value.int IntKind.i64 (e4.a))), (Filler.val (Value.int IntKind.i64 (e4.n))), (Filler.val (Value.int IntKind.i64 (e4.i))), (Filler.val (Value.int IntKind.i64 (e4.m))), (Filler.val (Value.int IntKind.i64 (e4.e)))] = [(Filler.dl ps), (Filler.dl (g.pairs xs)), (Filler.val (Value.int IntKind.i64 (e3.a))), (Filler.val (Value.int IntKind.i64 (e3.n))), (Filler.val (Value.int IntKind.i64 (e3.i))), (Filler.val (Value.int IntKind.i64 (e3.m))), (Filler.val (Value.int IntKind.i64 ((e3.e) + (1 : Int))))]) ∧ ((Nat.le (Nat.succ (w e4)) (w e3)) ∧ (([(Value.int IntKind.i64 (e4.a)), (Value.int IntKind.i64 (e4.n)), (Value.int IntKind.i64 (e4.i))] = [(Value.int IntKind.i64 (e2.a)), (Value.int IntKind.i64 (e2.n)), (Value.int IntKind.i64 (e2.i))]) ∧ (G e4)))))))))))))))) ∧ (((decide ((e3.e) < (e3.m))) = false) → ((((-9223372036854775808 : Int) ≤ ((e3.i) + (1 : Int))) ∧ (((e3.i) + (1 : Int)) ≤ (9223372036854775807 : Int))) ∧ (∃ (e5 : NIL), (([(Filler.dl ps), (Filler.dl (g.pairs xs)), (Filler.val (Value.int IntKind.i64 (e5.n))), (Filler.val (Value.int IntKind.i64 (e5.i)))] = [(Filler.dl ps), (Filler.dl (g.pairs xs)), (Filler.val (Value.int IntKind.i64 (e3.n))), (Filler.val (Value.int IntKind.i64 ((e3.i) + (1 : Int))))]) ∧ ((Nat.le (Nat.succ (q e5)) (q e1)) ∧ (J e5)))))))))))))) ∧ (((decide ((e1.i) < (e1.n))) = false) → (((((0 : Int) ≤ (std.imin ((List.length ps) : Int) (6 : Int))) ∧ ((std.imin ((List.length ps) : Int) (6 : Int)) ≤ ((List.length ps) : Int))) ∧ True) ∧ ((((List.length (List.take ((Int.toNat (std.imin ((List.length ps) : Int) (6 : Int))) - 0) (List.drop 0 ps))) * 32) ≤ 140737488355328) ∧ (((List.length (List.take ((Int.toNat (std.imin ((List.length ps) : Int) (6 : Int))) - 0) (List.drop 0 ps))) ≤ 1000000) ∧ ((((g.right (List.take ((Int.toNat (std.imin ((List.length ps) : Int) (6 : Int))) - 0) (List.drop 0 ps))) = true) → (((List.length (List.take ((Int.toNat (std.imin ((List.length ps) : Int) (6 : Int))) - 0) (List.drop 0 ps))) ≤ 1000000) ∧ ((((g.rright (List.take ((Int.toNat (std.imin ((List.length ps) : Int) (6 : Int))) - 0) (List.drop 0 ps))) = true) → (((List.length (g.pairs xs)) ≤ 1000000) ∧ ((((g.right (g.pairs xs)) = true) → ([(Value.bool true)] = [(Value.bool true)])) ∧ (((g.right (g.pairs xs)) = false) → ([(Value.bool false)] = [(Value.bool true)]))))) ∧ (((g.rright (List.take ((Int.toNat (std.imin ((List.length ps) : Int) (6 : Int))) - 0) (List.drop 0 ps))) = false) → ([(Value.bool false)] = [(Value.bool true)]))))) ∧ (((g.right (List.take ((Int.toNat (std.imin ((List.length ps) : Int) (6 : Int))) - 0) (List.drop 0 ps))) = false) → (((List.length (List.take ((Int.toNat (std.imin ((List.length ps) : Int) (6 : Int))) - 0) (List.drop 0 ps))) ≤ 1000000) ∧ ((((g.rright (List.take ((Int.toNat (std.imin ((List.length ps) : Int) (6 : Int))) - 0) (List.drop 0 ps))) = true) → ([(Value.bool false)] = [(Value.bool true)])) ∧ (((g.rright (List.take ((Int.toNat (std.imin ((List.length ps) : Int) (6 : Int))) - 0) (List.drop 0 ps))) = false) → (((List.length (g.pairs xs)) ≤ 1000000) ∧ ((((g.right (g.pairs xs)) = true) → ([(Value.bool true)] = [(Value.bool true)])) ∧ (((g.right (g.pairs xs)) = false) → ([(Value.bool false)] = [(Value.bool true)])))))))))))))))))))
set_option maxRecDepth 100000 in
theorem ranges_vc (g : KvF) (xs ps : List Value) (a b c : Int) (I : RgA → Prop) (m : RgA → Nat) (J : NIL → Prop) (q : NIL → Nat) (G : RgC → Prop) (w : RgC → Nat) : runP std (rangesCon std g) 90 (rangesLs ps (g.pairs xs) (g.rng (g.pairs xs) (g.key a) (g.key b)) (g.key a) (g.key b) (g.key c) I m J q G w) rangesP 6 Try.f6 (xs, a, b, c, ps, ()) =
  ((∀ (i14 : Nat), ((i14 < (List.length xs)) → (((-9223372036854775808 : Int) ≤ (eI xs i14)) ∧ ((eI xs i14) ≤ (9223372036854775807 : Int))))) ∧ ((((-9223372036854775808 : Int) ≤ a) ∧ (a ≤ (9223372036854775807 : Int))) ∧ ((((-9223372036854775808 : Int) ≤ b) ∧ (b ≤ (9223372036854775807 : Int))) ∧ ((((-9223372036854775808 : Int) ≤ c) ∧ (c ≤ (9223372036854775807 : Int))) ∧ (((List.length (g.pairs xs)) ≤ 1000000) ∧ (∃ (d14 : RgA), (([(Filler.dl ps), (Filler.dl (g.pairs xs)), (Filler.val (Value.string (g.key a))), (Filler.val (Value.string (g.key b))), (Filler.val (Value.string (g.key c))), (Filler.dl (g.rng (g.pairs xs) (g.key a) (g.key b))), (Filler.val (Value.int IntKind.i64 (d14.j))), (Filler.dl (g.pairs xs)), (Filler.val (Value.int IntKind.i64 (d14.n))), (Filler.val (Value.int IntKind.i64 (d14.i)))] = [(Filler.dl ps), (Filler.dl (g.pairs xs)), (Filler.val (Value.string (g.key a))), (Filler.val (Value.string (g.key b))), (Filler.val (Value.string (g.key c))), (Filler.dl (g.rng (g.pairs xs) (g.key a) (g.key b))), (Filler.val (Value.int IntKind.i64 (0 : Int))), (Filler.dl (g.pairs xs)), (Filler.val (Value.int IntKind.i64 ((List.length (g.pairs xs)) : Int))), (Filler.val (Value.int IntKind.i64 (0 : Int)))]) ∧ ((I d14) ∧ (∀ (d15 : RgA), ((I d15) → ((((decide ((d15.i) < (d15.n))) = true) → ((((0 : Int) ≤ (d15.i)) ∧ ((d15.i) < ((List.length (g.pairs xs)) : Int))) ∧ ((((!(std.slt (kP (g.pairs xs) (Int.toNat (d15.i))) (g.key a))) = true) → ((((std.slt (kP (g.pairs xs) (Int.toNat (d15.i))) (g.key b)) = true) → ((((decide (((List.length (g.rng (g.pairs xs) (g.key a) (g.key b))) : Int) ≤ (d15.j))) = true) → ([(Value.bool false)] = [(Value.bool true)])) ∧ (((decide (((List.length (g.rng (g.pairs xs) (g.key a) (g.key b))) : Int) ≤ (d15.j))) = false) → ((((0 : Int) ≤ (d15.j)) ∧ ((d15.j) < ((List.length (g.rng (g.pairs xs) (g.key a) (g.key b))) : Int))) ∧ ((((!((std.seq (kP (g.rng (g.pairs xs) (g.key a) (g.key b)) (Int.toNat (d15.j))) (kP (g.pairs xs) (Int.toNat (d15.i)))) && (std.seq (vP (g.rng (g.pairs xs) (g.key a) (g.key b)) (Int.toNat (d15.j))) (vP (g.pairs xs) (Int.toNat (d15.i)))))) = true) → ([(Value.bool false)] = [(Value.bool true)])) ∧ (((!((std.seq (kP (g.rng (g.pairs xs) (g.key a) (g.key b)) (Int.toNat (d15.j))) (kP (g.pairs xs) (Int.toNat (d15.i)))) && (std.seq (vP (g.rng (g.pairs xs) (g.key a) (g.key b)) (Int.toNat (d15.j))) (vP (g.pairs xs) (Int.toNat (d15.i)))))) = false) → ((((-9223372036854775808 : Int) ≤ ((d15.j) + (1 : Int))) ∧ (((d15.j) + (1 : Int)) ≤ (9223372036854775807 : Int))) ∧ ((((-9223372036854775808 : Int) ≤ ((d15.i) + (1 : Int))) ∧ (((d15.i) + (1 : Int)) ≤ (9223372036854775807 : Int))) ∧ (∃ (d22 : RgA), (([(Filler.dl ps), (Filler.dl (g.pairs xs)), (Filler.val (Value.string (g.key a))), (Filler.val (Value.string (g.key b))), (Filler.val (Value.string (g.key c))), (Filler.dl (g.rng (g.pairs xs) (g.key a) (g.key b))), (Filler.val (Value.int IntKind.i64 (d22.j))), (Filler.dl (g.pairs xs)), (Filler.val (Value.int IntKind.i64 (d22.n))), (Filler.val (Value.int IntKind.i64 (d22.i)))] = [(Filler.dl ps), (Filler.dl (g.pairs xs)), (Filler.val (Value.string (g.key a))), (Filler.val (Value.string (g.key b))), (Filler.val (Value.string (g.key c))), (Filler.dl (g.rng (g.pairs xs) (g.key a) (g.key b))), (Filler.val (Value.int IntKind.i64 ((d15.j) + (1 : Int)))), (Filler.dl (g.pairs xs)), (Filler.val (Value.int IntKind.i64 (d15.n))), (Filler.val (Value.int IntKind.i64 ((d15.i) + (1 : Int))))]) ∧ ((Nat.le (Nat.succ (m d22)) (m d15)) ∧ (I d22)))))))))))) ∧ (((std.slt (kP (g.pairs xs) (Int.toNat (d15.i))) (g.key b)) = false) → ((((-9223372036854775808 : Int) ≤ ((d15.i) + (1 : Int))) ∧ (((d15.i) + (1 : Int)) ≤ (9223372036854775807 : Int))) ∧ (∃ (d20 : RgA), (([(Filler.dl ps), (Filler.dl (g.pairs xs)), (Filler.val (Value.string (g.key a))), (Filler.val (Value.string (g.key b))), (Filler.val (Value.string (g.key c))), (Filler.dl (g.rng (g.pairs xs) (g.key a) (g.key b))), (Filler.val (Value.int IntKind.i64 (d20.j))), (Filler.dl (g.pairs xs)), (Filler.val (Value.int IntKind.i64 (d20.n))), (Filler.val (Value.int IntKind.i64 (d20.i)))] = [(Filler.dl ps), (Filler.dl (g.pairs xs)), (Filler.val (Value.string (g.key a))), (Filler.val (Value.string (g.key b))), (Filler.val (Value.string (g.key c))), (Filler.dl (g.rng (g.pairs xs) (g.key a) (g.key b))), (Filler.val (Value.int IntKind.i64 (d15.j))), (Filler.dl (g.pairs xs)), (Filler.val (Value.int IntKind.i64 (d15.n))), (Filler.val (Value.int IntKind.i64 ((d15.i) + (1 : Int))))]) ∧ ((Nat.le (Nat.succ (m d20)) (m d15)) ∧ (I d20)))))))) ∧ (((!(std.slt (kP (g.pairs xs) (Int.toNat (d15.i))) (g.key a))) = false) → ((((-9223372036854775808 : Int) ≤ ((d15.i) + (1 : Int))) ∧ (((d15.i) + (1 : Int)) ≤ (9223372036854775807 : Int))) ∧ (∃ (d19 : RgA), (([(Filler.dl ps), (Filler.dl (g.pairs xs)), (Filler.val (Value.string (g.key a))), (Filler.val (Value.string (g.key b))), (Filler.val (Value.string (g.key c))), (Filler.dl (g.rng (g.pairs xs) (g.key a) (g.key b))), (Filler.val (Value.int IntKind.i64 (d19.j))), (Filler.dl (g.pairs xs)), (Filler.val (Value.int IntKind.i64 (d19.n))), (Filler.val (Value.int IntKind.i64 (d19.i)))] = [(Filler.dl ps), (Filler.dl (g.pairs xs)), (Filler.val (Value.string (g.key a))), (Filler.val (Value.string (g.key b))), (Filler.val (Value.string (g.key c))), (Filler.dl (g.rng (g.pairs xs) (g.key a) (g.key b))), (Filler.val (Value.int IntKind.i64 (d15.j))), (Filler.dl (g.pairs xs)), (Filler.val (Value.int IntKind.i64 (d15.n))), (Filler.val (Value.int IntKind.i64 ((d15.i) + (1 : Int))))]) ∧ ((Nat.le (Nat.succ (m d19)) (m d15)) ∧ (I d19))))))))) ∧ (((decide ((d15.i) < (d15.n))) = false) → ((((!((d15.j) == ((List.length (g.rng (g.pairs xs) (g.key a) (g.key b))) : Int))) = true) → ([(Value.bool false)] = [(Value.bool true)])) ∧ (((!((d15.j) == ((List.length (g.rng (g.pairs xs) (g.key a) (g.key b))) : Int))) = false) → (((((std.slt (g.key a) (g.key b)) || (std.seq (g.key a) (g.key b))) = true) → (((((std.slt (g.key b) (g.key c)) || (std.seq (g.key b) (g.key c))) = true) → (((List.length (g.pairs xs)) ≤ 1000000) ∧ ((((List.length (g.rng (g.pairs xs) (g.key a) (g.key b))) * 32) ≤ 140737488355328) ∧ (((List.length (g.pairs xs)) ≤ 1000000) ∧ ((((List.length ((g.rng (g.pairs xs) (g.key a) (g.key b)) ++ (g.rng (g.pairs xs) (g.key b) (g.key c)))) * 32) ≤ 140737488355328) ∧ (((List.length (g.pairs xs)) ≤ 1000000) ∧ (((List.length ((g.rng (g.pairs xs) (g.key a) (g.key b)) ++ (g.rng (g.pairs xs) (g.key b) (g.key c)))) ≤ 1000000) ∧ ((((g.same ((g.rng (g.pairs xs) (g.key a) (g.key b)) ++ (g.rng (g.pairs xs) (g.key b) (g.key c))) (g.rng (g.pairs xs) (g.key a) (g.key c))) = true) → (nestP g xs ps J q G w)) ∧ (((g.same ((g.rng (g.pairs xs) (g.key a) (g.key b)) ++ (g.rng (g.pairs xs) (g.key b) (g.key c))) (g.rng (g.pairs xs) (g.key a) (g.key c))) = false) → ([(Value.bool false)] = [(Value.bool true)])))))))))) ∧ ((((std.slt (g.key b) (g.key c)) || (std.seq (g.key b) (g.key c))) = false) → (nestP g xs ps J q G w)))) ∧ ((((std.slt (g.key a) (g.key b)) || (std.seq (g.key a) (g.key b))) = false) → (nestP g xs ps J q G w))))))))))))))))) := by kernel_rfl
end Go.Proofs.Ytolkoacllaaceaa
end
section
namespace Go.Proofs.Ytolkoacllaaceaa
open Go.RowKit Go.Abs Go
def nestJ (l : List Value) (d : NIL) : Prop := d.n = l.length ∧ ∃ i : Nat, d.i = i ∧ i ≤ l.length
def nestG (l : List Value) (d : RgC) : Prop := d.n = l.length ∧ d.m = l.length ∧ d.a = d.i ∧ (∃ i : Nat, d.a = i ∧ i < l.length) ∧ ∃ e : Nat, d.e = e ∧ e ≤ l.length
theorem key_small {l : List Value} (h : RightL l) {i : Nat} (hi : i < l.length) : lenB (kP l i) ≤ 16 ∧ lenB (vP l i) ≤ 24 := by
  have := ((right_iff l).1 h.1).1 _ (List.getElem_mem hi)
  rw [kP_get hi, vP_get hi]
  unfold mayF at this
  simp only [Bool.and_eq_true, decide_eq_true_eq] at this
  omega
theorem key_diff {l : List Value} (h : RightL l) {i j : Nat} (hi : i < l.length) (hj : j < l.length) (e : kP l i = kP l j) : i = j := by
  have ho := ((right_iff l).1 h.1).2.1
  rw [kP_get hi, kP_get hj] at e
  rcases Nat.lt_trichotomy i j with h1 | h1 | h1
  · have := (List.pairwise_iff_getElem.1 ho) i j hi hj h1
    rw [e, lt_irrefl] at this; cases this
  · exact h1
  · have := (List.pairwise_iff_getElem.1 ho) j i hj hi h1
    rw [e, lt_irrefl] at this; cases this
theorem sameb_iff {xs ys : List Value} (h : samebF xs ys = true) (hx : ∀ x ∈ xs, ∃ n, x = .int .u8 n) (hy : ∀ x ∈ ys, ∃ n, x = .int .u8 n) : xs = ys := by
  unfold samebF at h
  rw [Bool.and_eq_true, beq_iff_eq, List.all_eq_true] at h
  refine List.ext_getElem h.1 fun i h1 h2 => ?_
  have := h.2 i (List.mem_range.2 h1)
  rw [beq_iff_eq] at this
  unfold eB at this
  rw [List.getD_eq_getElem?_getD, List.getD_eq_getElem?_getD, List.getElem?_eq_getElem h1, List.getElem?_eq_getElem h2] at this
  obtain ⟨n, e1⟩ := hx _ (List.getElem_mem h1)
  obtain ⟨m, e2⟩ := hy _ (List.getElem_mem h2)
  simp only [Option.getD_some, e1, e2, dint] at this
  rw [e1, e2, this]
theorem sameb_self (xs : List Value) : samebF xs xs = true := by
  unfold samebF
  rw [beq_self_eq_true, Bool.true_and, List.all_eq_true]
  exact fun i _ => beq_self_eq_true _
theorem oneL_ints : ∀ (f : Nat) (n : Int), ∀ x ∈ oneL f n, ∃ m, x = .int .u8 m
  | 0, n, x, h => by simp [oneL] at h
  | f + 1, n, x, h => by
    unfold oneL at h
    split at h
    · rcases List.mem_cons.1 h with rfl | h
      · exact ⟨_, rfl⟩
      · exact oneL_ints f _ x h
    · rw [List.mem_singleton.1 h]; exact ⟨_, rfl⟩
theorem leaf_ints (k v : ByteArray) : ∀ x ∈ leafF k v, ∃ m, x = .int .u8 m := by
  intro x h
  have sv : ∀ s : ByteArray, x ∈ std.svals s → ∃ m, x = .int .u8 m := fun s h => by
    obtain ⟨b, _, rfl⟩ := List.mem_map.1 h
    exact ⟨_, rfl⟩
  have e : leafF k v = oneF (lenB k : Int) ++ std.svals k ++ (oneF (lenB v : Int) ++ std.svals v ++ []) := rfl
  rw [e] at h
  simp only [List.append_nil, List.mem_append] at h
  rcases h with (h | h) | h | h
  · exact oneL_ints _ _ x h
  · exact sv _ h
  · exact oneL_ints _ _ x h
  · exact sv _ h
theorem leaf_same {l : List Value} (h : RightL l) {i j : Nat} (hi : i < l.length) (hj : j < l.length) : samebF (leafF (kP l i) (vP l i)) (leafF (kP l j) (vP l j)) = decide (i = j) := by
  by_cases e : i = j
  · subst e; rw [sameb_self, decide_eq_true rfl]
  · rw [decide_eq_false e]
    cases hc : samebF (leafF (kP l i) (vP l i)) (leafF (kP l j) (vP l j)) with
    | false => rfl
    | true =>
      have h1 := sameb_iff hc (leaf_ints _ _) (leaf_ints _ _)
      have h2 := key_small h hi
      have h3 := key_small h hj
      exact absurd (key_diff h hi hj (leaf_inj (by omega) (by omega) h1)) e
theorem leaf_len {k v : ByteArray} (hk : lenB k ≤ 16) (hv : lenB v ≤ 24) : (leafF k v).length ≤ 1000000 := by
  have e : leafF k v = oneF (lenB k : Int) ++ std.svals k ++ (oneF (lenB v : Int) ++ std.svals v ++ []) := rfl
  have h1 := oneL_len 7 (lenB k : Int)
  have h2 := oneL_len 7 (lenB v : Int)
  rw [e]
  simp only [List.length_append, svals_len, List.length_nil]
  show (oneL 7 _).length + _ + ((oneL 7 _).length + _ + 0) ≤ _
  omega
theorem nest_ok (xs ps : List Value) (hL : RightL (kvF.pairs xs)) : nestP kvF xs ps (nestJ (kvF.pairs xs)) (fun d => (d.n - d.i).toNat) (nestG (kvF.pairs xs)) fun d => (d.m - d.e).toNat := by
  unfold nestP
  generalize kvF.pairs xs = l at hL ⊢
  have hlen := ((right_iff l).1 hL.1).2.2
  refine ⟨⟨l.length, 0⟩, rfl, ⟨rfl, 0, rfl, Nat.zero_le _⟩, fun d ⟨hn, i, hi, hle⟩ => ⟨fun h => ?_, fun h => ?_⟩⟩
  · have h := of_decide_eq_true h
    refine ⟨⟨d.n, d.i, d.i, l.length, 0⟩, rfl, ⟨hn, rfl, rfl, ⟨i, hi, by omega⟩, 0, rfl, Nat.zero_le _⟩, fun e ⟨g1, g2, g3, ⟨ia, g4, g5⟩, je, g6, g7⟩ hgh => ⟨fun h2 => ?_, fun h2 => ?_⟩⟩
    · have h2 := of_decide_eq_true h2
      have hj : je < l.length := by omega
      have s1 := key_small hL g5
      have s2 := key_small hL hj
      have hs := leaf_same hL g5 hj
      have hll := leaf_len s1.1 s1.2
      have next : (-9223372036854775808 ≤ e.e + 1 ∧ e.e + 1 ≤ 9223372036854775807) ∧ ∃ e4 : RgC, [Filler.dl ps, Filler.dl l, Filler.val (Value.int IntKind.i64 e4.a), Filler.val (Value.int IntKind.i64 e4.n), Filler.val (Value.int IntKind.i64 e4.i), Filler.val (Value.int IntKind.i64 e4.m), Filler.val (Value.int IntKind.i64 e4.e)] = [Filler.dl ps, Filler.dl l, Filler.val (Value.int IntKind.i64 e.a), Filler.val (Value.int IntKind.i64 e.n), Filler.val (Value.int IntKind.i64 e.i), Filler.val (Value.int IntKind.i64 e.m), Filler.val (Value.int IntKind.i64 (e.e + 1))] ∧ Nat.le (Nat.succ (e4.m - e4.e).toNat) (e.m - e.e).toNat ∧ ([Value.int IntKind.i64 e4.a, Value.int IntKind.i64 e4.n, Value.int IntKind.i64 e4.i] = [Value.int IntKind.i64 d.i, Value.int IntKind.i64 d.n, Value.int IntKind.i64 d.i] ∧ nestG l e4) := by
        refine ⟨by omega, ⟨e.n, e.i, e.a, e.m, e.e + 1⟩, rfl, ?_, hgh, g1, g2, g3, ⟨ia, g4, g5⟩, je + 1, by show e.e + 1 = _; omega, by omega⟩
        show (e.m - (e.e + 1)).toNat + 1 ≤ (e.m - e.e).toNat
        omega
      rw [show e.a.toNat = ia by omega, show e.e.toNat = je by omega]
      refine ⟨by omega, ⟨by have := s1.1; exact Nat.le_trans this (by omega), by have := s1.2; exact Nat.le_trans this (by omega)⟩, by omega, ⟨by have := s2.1; exact Nat.le_trans this (by omega), by have := s2.2; exact Nat.le_trans this (by omega)⟩, hll, fun h3 => ⟨fun _ => next, fun h4 => ?_⟩, fun h3 => ⟨fun h4 => ?_, fun _ => next⟩⟩
      · exfalso
        have h3 : samebF (leafF (kP l ia) (vP l ia)) (leafF (kP l je) (vP l je)) = true := h3
        rw [hs] at h3
        have h3 := of_decide_eq_true h3
        have h4 : (e.a == e.e) = false := h4
        rw [beq_eq_false_iff_ne] at h4
        omega
      · exfalso
        have h3 : samebF (leafF (kP l ia) (vP l ia)) (leafF (kP l je) (vP l je)) = false := h3
        rw [hs] at h3
        have h3 := of_decide_eq_false h3
        have h4 : (e.a == e.e) = true := h4
        rw [beq_iff_eq] at h4
        omega
    · have h2 := of_decide_eq_false h2
      simp only [List.cons.injEq, Value.int.injEq, true_and, and_true] at hgh
      refine ⟨by omega, ⟨e.n, e.i + 1⟩, rfl, ?_, g1, i + 1, by show e.i + 1 = _; omega, by omega⟩
      show (e.n - (e.i + 1)).toNat + 1 ≤ (d.n - d.i).toNat
      omega
  · have hT : (List.take ((std.imin (ps.length : Int) 6).toNat - 0) (List.drop 0 ps)).length ≤ 6 := by
      rw [List.length_take]
      have : std.imin (ps.length : Int) 6 ≤ 6 := by
        show (if (6 : Int) < ps.length then 6 else (ps.length : Int)) ≤ 6
        split <;> omega
      omega
    have hm : 0 ≤ std.imin (ps.length : Int) 6 ∧ std.imin (ps.length : Int) 6 ≤ (ps.length : Int) := by
      show 0 ≤ (if (6 : Int) < ps.length then 6 else (ps.length : Int)) ∧ (if (6 : Int) < ps.length then 6 else (ps.length : Int)) ≤ (ps.length : Int)
      split <;> omega
    generalize List.take ((std.imin (ps.length : Int) 6).toNat - 0) (List.drop 0 ps) = T at hT ⊢
    have hrr : ∀ l : List Value, kvF.rright l = kvF.right l := fun l => by
      show rightF rmayF l = rightF mayF l
      have : rmayF = mayF := by funext k v; exact may_rmay k v
      rw [this]
    have hr : kvF.right l = true := hL.1
    refine ⟨⟨hm, trivial⟩, by omega, by omega, fun h1 => ⟨by omega, fun h2 => ⟨by omega, fun _ => rfl, fun h3 => ?_⟩, fun h2 => ?_⟩, fun h1 => ⟨by omega, fun h2 => ?_, fun h2 => ⟨by omega, fun _ => rfl, fun h3 => ?_⟩⟩⟩
    · rw [hr] at h3; cases h3
    · rw [hrr, h1] at h2; cases h2
    · rw [hrr, h1] at h2; cases h2
    · rw [hr] at h3; cases h3
def walkI (l : List Value) (a b : ByteArray) (d : RgA) : Prop := d.n = l.length ∧ ∃ i : Nat, d.i = i ∧ i ≤ l.length ∧ d.j = (((l.take i).filter (inRange a b)).length : Nat)
theorem ranges_run (xs ps : List Value) (a b c : Int) (hxs : ∀ i, i < xs.length → -9223372036854775808 ≤ eI xs i ∧ eI xs i ≤ 9223372036854775807) (ha : -9223372036854775808 ≤ a ∧ a ≤ 9223372036854775807) (hb : -9223372036854775808 ≤ b ∧ b ≤ 9223372036854775807) (hc : -9223372036854775808 ≤ c ∧ c ≤ 9223372036854775807)
    (hL : RightL (kvF.pairs xs)) : Holds (runP std (rangesCon std kvF) 90 (rangesLs ps (kvF.pairs xs) (kvF.rng (kvF.pairs xs) (kvF.key a) (kvF.key b)) (kvF.key a) (kvF.key b) (kvF.key c) (walkI (kvF.pairs xs) (kvF.key a) (kvF.key b)) (fun d => (d.n - d.i).toNat) (nestJ (kvF.pairs xs)) (fun d => (d.n - d.i).toNat) (nestG (kvF.pairs xs)) fun d => (d.m - d.e).toNat) rangesP 6 Try.f6 (xs, a, b, c, ps, ())) := by
  constructor
  rw [ranges_vc]
  have hN := nest_ok xs ps hL
  have ho := ((right_iff _).1 hL.1).2.1
  have hlen := ((right_iff _).1 hL.1).2.2
  generalize nestP kvF xs ps (nestJ (kvF.pairs xs)) (fun d => (d.n - d.i).toNat) (nestG (kvF.pairs xs)) (fun d => (d.m - d.e).toNat) = N at hN ⊢
  generalize kvF.pairs xs = l at hL ho hlen ⊢
  generalize kvF.key a = ka
  generalize kvF.key b = kb
  generalize kvF.key c = kc
  have hf : ∀ u v, kvF.rng l u v = l.filter (inRange u v) := fun u v => rng_filter ho u v
  have hle : ∀ u v, (kvF.rng l u v).length ≤ 30 := fun u v => by rw [hf]; have := List.length_filter_le (inRange u v) l; omega
  have hl1 := hle ka kb
  have hl2 := hle kb kc
  refine ⟨hxs, ha, hb, hc, by omega, ⟨0, l.length, 0⟩, rfl, ⟨rfl, 0, rfl, Nat.zero_le _, rfl⟩, fun d ⟨hn, i, hi, hile, hj⟩ => ⟨fun h => ?_, fun h => ⟨fun h1 => ?_, fun _ => ⟨fun h1 => ⟨fun h2 => ⟨by omega, by omega, by omega, ?_, by omega, ?_, fun _ => hN, fun h3 => ?_⟩, fun _ => hN⟩, fun _ => hN⟩⟩⟩⟩
  · have h := of_decide_eq_true h
    have hlt : i < l.length := by omega
    have hin : inRange ka kb l[i] = (!ltB (kP l i) ka && ltB (kP l i) kb) := by unfold inRange; rw [kP_get hlt]
    rw [show d.i.toNat = i by omega]
    have skip : inRange ka kb l[i] = false → (-9223372036854775808 ≤ d.i + 1 ∧ d.i + 1 ≤ 9223372036854775807) ∧ ∃ e : RgA, [Filler.dl ps, Filler.dl l, Filler.val (Value.string ka), Filler.val (Value.string kb), Filler.val (Value.string kc), Filler.dl (kvF.rng l ka kb), Filler.val (Value.int IntKind.i64 e.j), Filler.dl l, Filler.val (Value.int IntKind.i64 e.n), Filler.val (Value.int IntKind.i64 e.i)] = [Filler.dl ps, Filler.dl l, Filler.val (Value.string ka), Filler.val (Value.string kb), Filler.val (Value.string kc), Filler.dl (kvF.rng l ka kb), Filler.val (Value.int IntKind.i64 d.j), Filler.dl l, Filler.val (Value.int IntKind.i64 d.n), Filler.val (Value.int IntKind.i64 (d.i + 1))] ∧ Nat.le (Nat.succ (e.n - e.i).toNat) (d.n - d.i).toNat ∧ walkI l ka kb e := fun hp => by
      refine ⟨by omega, ⟨d.j, d.n, d.i + 1⟩, rfl, ?_, hn, i + 1, by show d.i + 1 = _; omega, hlt, ?_⟩
      · show (d.n - (d.i + 1)).toNat + 1 ≤ (d.n - d.i).toNat
        omega
      · rw [filter_skip hlt hp]; exact hj
    refine ⟨by omega, fun h1 => ⟨fun h2 => ?_, fun h2 => skip ?_⟩, fun h1 => skip ?_⟩
    · have hp : inRange ka kb l[i] = true := by
        rw [hin, show (!ltB (kP l i) ka) = true from h1, show ltB (kP l i) kb = true from h2]; rfl
      obtain ⟨n1, n2, n3, n4⟩ := filter_next hlt hp
      rw [← hf] at n1 n2 n3
      refine ⟨fun h3 => ?_, fun h3 => ⟨by omega, fun h4 => ?_, fun _ => ⟨by omega, by omega, ⟨d.j + 1, d.n, d.i + 1⟩, rfl, ?_, hn, i + 1, by show d.i + 1 = _; omega, hlt, ?_⟩⟩⟩
      · have h3 := of_decide_eq_true h3
        omega
      · exfalso
        rw [show d.j.toNat = ((l.take i).filter (inRange ka kb)).length by omega, n2, n3] at h4
        have h4 : (!(eqB (kP l i) (kP l i) && eqB (vP l i) (vP l i))) = true := h4
        rw [eqB_iff.2 rfl, eqB_iff.2 rfl] at h4
        cases h4
      · show (d.n - (d.i + 1)).toNat + 1 ≤ (d.n - d.i).toNat
        omega
      · rw [n4]; show d.j + 1 = _; omega
    · rw [hin, show ltB (kP l i) kb = false from h2, Bool.and_false]
    · rw [hin, show (!ltB (kP l i) ka) = false from h1, Bool.false_and]
  · have h := of_decide_eq_false h
    exfalso
    rw [hj, show i = l.length by omega, List.take_length, hf] at h1
    simp at h1
  · rw [List.length_append]; omega
  · rw [List.length_append]; omega
  · exfalso
    have h3 : sameF (rngF l ka kb ++ rngF l kb kc) (rngF l ka kc) = false := h3
    rw [rng_join ho h1 h2, same_self] at h3
    cases h3
end Go.Proofs.Ytolkoacllaaceaa
end
section
namespace Go.Abs
open Go Go.ChangeShapes Go.WideShapes Go.RowKit

section
variable {H : Type} {enc : TypeId × Value → H} {P : Program} {w : World} {base : Nat} {spare : Nat → Bool} {held : Bool}
theorem trodAll_one' {t0 : TypeId} {args : Array Value} {ds : List (DataW H)} {ps : List MemPlace} (h : DataW.TrodAll enc P w base spare held [t0] args.toList ds ps) :
    ∃ v0 d0 p0, args = #[v0] ∧ ds = [d0] ∧ ps = p0 ++ [] ∧ DataW.Trod enc P w base spare held t0 v0 d0 p0 := by
  obtain ⟨v0, r0, d0, s0, p0, q0, e0, rfl, rfl, g0, k0⟩ := trodAll_cons h
  obtain ⟨rfl, rfl, rfl⟩ := trodAll_nil k0
  exact ⟨v0, d0, p0, Array.toList_inj.1 e0, rfl, rfl, g0⟩
theorem trodAll_two' {t0 t1 : TypeId} {args : Array Value} {ds : List (DataW H)} {ps : List MemPlace} (h : DataW.TrodAll enc P w base spare held [t0, t1] args.toList ds ps) :
    ∃ v0 v1 d0 d1 p0 p1, args = #[v0, v1] ∧ ds = [d0, d1] ∧ ps = p0 ++ p1 ++ [] ∧ DataW.Trod enc P w base spare held t0 v0 d0 p0 ∧ DataW.Trod enc P w base spare held t1 v1 d1 p1 := by
  obtain ⟨v0, r0, d0, s0, p0, q0, e0, rfl, rfl, g0, k0⟩ := trodAll_cons h
  obtain ⟨v1, r1, d1, s1, p1, q1, rfl, rfl, rfl, g1, k1⟩ := trodAll_cons k0
  obtain ⟨rfl, rfl, rfl⟩ := trodAll_nil k1
  exact ⟨v0, v1, d0, d1, p0, p1, Array.toList_inj.1 e0, rfl, by simp only [List.append_assoc], g0, g1⟩
theorem trodAll_three' {t0 t1 t2 : TypeId} {args : Array Value} {ds : List (DataW H)} {ps : List MemPlace} (h : DataW.TrodAll enc P w base spare held [t0, t1, t2] args.toList ds ps) :
    ∃ v0 v1 v2 d0 d1 d2 p0 p1 p2, args = #[v0, v1, v2] ∧ ds = [d0, d1, d2] ∧ ps = p0 ++ p1 ++ p2 ++ [] ∧ DataW.Trod enc P w base spare held t0 v0 d0 p0 ∧ DataW.Trod enc P w base spare held t1 v1 d1 p1 ∧ DataW.Trod enc P w base spare held t2 v2 d2 p2 := by
  obtain ⟨v0, r0, d0, s0, p0, q0, e0, rfl, rfl, g0, k0⟩ := trodAll_cons h
  obtain ⟨v1, r1, d1, s1, p1, q1, rfl, rfl, rfl, g1, k1⟩ := trodAll_cons k0
  obtain ⟨v2, r2, d2, s2, p2, q2, rfl, rfl, rfl, g2, k2⟩ := trodAll_cons k1
  obtain ⟨rfl, rfl, rfl⟩ := trodAll_nil k2
  exact ⟨v0, v1, v2, d0, d1, d2, p0, p1, p2, Array.toList_inj.1 e0, rfl, by simp only [List.append_assoc], g0, g1, g2⟩
theorem trodAll_four' {t0 t1 t2 t3 : TypeId} {args : Array Value} {ds : List (DataW H)} {ps : List MemPlace} (h : DataW.TrodAll enc P w base spare held [t0, t1, t2, t3] args.toList ds ps) :
    ∃ v0 v1 v2 v3 d0 d1 d2 d3 p0 p1 p2 p3, args = #[v0, v1, v2, v3] ∧ ds = [d0, d1, d2, d3] ∧ ps = p0 ++ p1 ++ p2 ++ p3 ++ [] ∧ DataW.Trod enc P w base spare held t0 v0 d0 p0 ∧ DataW.Trod enc P w base spare held t1 v1 d1 p1 ∧ DataW.Trod enc P w base spare held t2 v2 d2 p2 ∧ DataW.Trod enc P w base spare held t3 v3 d3 p3 := by
  obtain ⟨v0, r0, d0, s0, p0, q0, e0, rfl, rfl, g0, k0⟩ := trodAll_cons h
  obtain ⟨v1, r1, d1, s1, p1, q1, rfl, rfl, rfl, g1, k1⟩ := trodAll_cons k0
  obtain ⟨v2, r2, d2, s2, p2, q2, rfl, rfl, rfl, g2, k2⟩ := trodAll_cons k1
  obtain ⟨v3, r3, d3, s3, p3, q3, rfl, rfl, rfl, g3, k3⟩ := trodAll_cons k2
  obtain ⟨rfl, rfl, rfl⟩ := trodAll_nil k3
  exact ⟨v0, v1, v2, v3, d0, d1, d2, d3, p0, p1, p2, p3, Array.toList_inj.1 e0, rfl, by simp only [List.append_assoc], g0, g1, g2, g3⟩
theorem trodAll_five' {t0 t1 t2 t3 t4 : TypeId} {args : Array Value} {ds : List (DataW H)} {ps : List MemPlace} (h : DataW.TrodAll enc P w base spare held [t0, t1, t2, t3, t4] args.toList ds ps) :
    ∃ v0 v1 v2 v3 v4 d0 d1 d2 d3 d4 p0 p1 p2 p3 p4, args = #[v0, v1, v2, v3, v4] ∧ ds = [d0, d1, d2, d3, d4] ∧ ps = p0 ++ p1 ++ p2 ++ p3 ++ p4 ++ [] ∧ DataW.Trod enc P w base spare held t0 v0 d0 p0 ∧ DataW.Trod enc P w base spare held t1 v1 d1 p1 ∧ DataW.Trod enc P w base spare held t2 v2 d2 p2 ∧ DataW.Trod enc P w base spare held t3 v3 d3 p3 ∧ DataW.Trod enc P w base spare held t4 v4 d4 p4 := by
  obtain ⟨v0, r0, d0, s0, p0, q0, e0, rfl, rfl, g0, k0⟩ := trodAll_cons h
  obtain ⟨v1, r1, d1, s1, p1, q1, rfl, rfl, rfl, g1, k1⟩ := trodAll_cons k0
  obtain ⟨v2, r2, d2, s2, p2, q2, rfl, rfl, rfl, g2, k2⟩ := trodAll_cons k1
  obtain ⟨v3, r3, d3, s3, p3, q3, rfl, rfl, rfl, g3, k3⟩ := trodAll_cons k2
  obtain ⟨v4, r4, d4, s4, p4, q4, rfl, rfl, rfl, g4, k4⟩ := trodAll_cons k3
  obtain ⟨rfl, rfl, rfl⟩ := trodAll_nil k4
  exact ⟨v0, v1, v2, v3, v4, d0, d1, d2, d3, d4, p0, p1, p2, p3, p4, Array.toList_inj.1 e0, rfl, by simp only [List.append_assoc], g0, g1, g2, g3, g4⟩
theorem trodAll_six' {t0 t1 t2 t3 t4 t5 : TypeId} {args : Array Value} {ds : List (DataW H)} {ps : List MemPlace} (h : DataW.TrodAll enc P w base spare held [t0, t1, t2, t3, t4, t5] args.toList ds ps) :
    ∃ v0 v1 v2 v3 v4 v5 d0 d1 d2 d3 d4 d5 p0 p1 p2 p3 p4 p5, args = #[v0, v1, v2, v3, v4, v5] ∧ ds = [d0, d1, d2, d3, d4, d5] ∧ ps = p0 ++ p1 ++ p2 ++ p3 ++ p4 ++ p5 ++ [] ∧ DataW.Trod enc P w base spare held t0 v0 d0 p0 ∧ DataW.Trod enc P w base spare held t1 v1 d1 p1 ∧ DataW.Trod enc P w base spare held t2 v2 d2 p2 ∧ DataW.Trod enc P w base spare held t3 v3 d3 p3 ∧ DataW.Trod enc P w base spare held t4 v4 d4 p4 ∧ DataW.Trod enc P w base spare held t5 v5 d5 p5 := by
  obtain ⟨v0, r0, d0, s0, p0, q0, e0, rfl, rfl, g0, k0⟩ := trodAll_cons h
  obtain ⟨v1, r1, d1, s1, p1, q1, rfl, rfl, rfl, g1, k1⟩ := trodAll_cons k0
  obtain ⟨v2, r2, d2, s2, p2, q2, rfl, rfl, rfl, g2, k2⟩ := trodAll_cons k1
  obtain ⟨v3, r3, d3, s3, p3, q3, rfl, rfl, rfl, g3, k3⟩ := trodAll_cons k2
  obtain ⟨v4, r4, d4, s4, p4, q4, rfl, rfl, rfl, g4, k4⟩ := trodAll_cons k3
  obtain ⟨v5, r5, d5, s5, p5, q5, rfl, rfl, rfl, g5, k5⟩ := trodAll_cons k4
  obtain ⟨rfl, rfl, rfl⟩ := trodAll_nil k5
  exact ⟨v0, v1, v2, v3, v4, v5, d0, d1, d2, d3, d4, d5, p0, p1, p2, p3, p4, p5, Array.toList_inj.1 e0, rfl, by simp only [List.append_assoc], g0, g1, g2, g3, g4, g5⟩
end
/-- A slice that came in. -/
def SlIn (w : World) (z v : Value) : Prop := ∃ xs, xs.length ≤ maxLen ∧ (∀ x ∈ xs, RawOk z x) ∧ DRa (zW w) (dsl z xs) v
/-- Numbers that came in. -/
theorem ints_ok {k : IntKind} {n : Int} {xs : List Value} (h : ∀ x ∈ xs, RawOk (.int k n) x) : ∀ (i : Nat) d, i < xs.length → ∃ m, xs.getD i d = .int k m ∧ (Lit.int k m).wf = true := by
  intro i d hi
  rw [List.getD_eq_getElem?_getD, List.getElem?_eq_getElem hi]
  have := h _ (List.getElem_mem hi)
  generalize xs[i] = u at this
  cases this with
  | int hw => exact ⟨_, rfl, hw⟩
end Go.Abs
end
section
namespace Go.Proofs.Ytolkoacllaaceaa
open Go Go.Abs Go.RowKit Go.ChangeShapes Go.WideShapes Go.ChangeAt
theorem rangesCon_ok : ConOk Try.prog (rangesCon std kvF) := draw_ok (conL_ok fun x hx => by
  simp only [List.mem_cons, List.not_mem_nil, or_false] at hx
  rcases hx with rfl | rfl | rfl | rfl | rfl | rfl | rfl
  · exact pcon_ok pairs_ok
  · exact pcon_ok key_ok
  · exact pcon_ok rng_ok
  · exact pcon_ok same_ok
  · exact pcon_ok right_ok
  · exact pcon_ok rright_ok
  · exact closedC_ok (knownOk_none _) Try.func3 (show _ = some (bodyS Try.prog 3) by kernel_rfl) rfl runs_closed) fun x hx => by
  simp only [List.mem_cons, List.not_mem_nil, or_false] at hx
  rcases hx with rfl | rfl
  · exact dcon_ok rfl leaf_ok
  · exact dcon_ok rfl sameb_ok
def inR (n : Int) : Prop := -9223372036854775808 ≤ n ∧ n ≤ 9223372036854775807
noncomputable def rangesQ : PF := pf (.cons cIs (.cons cI64 (.cons cI64 (.cons cI64 (.cons cP .nil))))) (fun d => IntsOk d.1 ∧ inR d.2.1 ∧ inR d.2.2.1 ∧ inR d.2.2.2.1) [.bool false] fun _ => [.bool true]
theorem ranges_ok : PFOk Try.prog 6 rangesQ :=
  pf_ok (LS := fun d => rangesLs d.2.2.2.2.1 (kvF.pairs d.1) (kvF.rng (kvF.pairs d.1) (kvF.key d.2.1) (kvF.key d.2.2.1)) (kvF.key d.2.1) (kvF.key d.2.2.1) (kvF.key d.2.2.2.1) (walkI (kvF.pairs d.1) (kvF.key d.2.1) (kvF.key d.2.2.1)) (fun d => (d.n - d.i).toNat) (nestJ (kvF.pairs d.1)) (fun d => (d.n - d.i).toNat) (nestG (kvF.pairs d.1)) fun d => (d.m - d.e).toNat) Try.progOk rangesCon_ok (inCallF_ok 60) rangesQ Try.func6 (show _ = some (bodyS Try.prog 6) by kernel_rfl) fun d hd => by
    obtain ⟨xs, a, b, c, ps, u⟩ := d
    obtain ⟨h⟩ := ranges_run xs ps a b c hd.1 hd.2.1 hd.2.2.1 hd.2.2.2 (pairs_right xs)
    exact h
theorem kvRanges_calls (w : World) (v0 : Value) (h0 : SlIn w zI v0) (a : Int) (ha : inR a) (b : Int) (hb : inR b) (c : Int) (hc : inR c) (v4 : Value) (h4 : SlIn w zP v4) : Calls Try.prog 6 #[v0, .int .i64 a, .int .i64 b, .int .i64 c, v4] w fun e w' => Below w.heap.size w w' ∧ e = .returned (.bool true) := by
  obtain ⟨xs, _, hx, d0⟩ := h0
  obtain ⟨ps, _, _, d4⟩ := h4
  have hpre : IntsOk xs := fun i hi => by
    obtain ⟨m, e, hw⟩ := ints_ok hx i zI hi
    unfold eI
    rw [e]; exact i64_range hw
  have one : ∀ n : Int, DRa (zW w) (.int .i64 n) (.int .i64 n) := fun n => .inl ⟨rfl, .plain rfl⟩
  exact law_pf Try.progOk Try.func6 (show _ = some (bodyS Try.prog 6) by kernel_rfl) ranges_ok rfl (d := (xs, a, b, c, ps, ())) ⟨hpre, ha, hb, hc⟩ rfl (xs := [dsl zI xs, .int .i64 a, .int .i64 b, .int .i64 c, dsl zP ps]) (by kernel_rfl) (All2.cons d0 (All2.cons (one a) (All2.cons (one b) (All2.cons (one c) (All2.cons d4 All2.nil)))))
set_option maxRecDepth 100000 in
theorem kvRanges_lifted (os : Os) (started : os.Started) (H : Type) (enc : TypeId × Value → H) :
    ReturnsInHanded {} Try.checked os 6 .any (Rows.kvRangesSpec.pre6 enc Try.prog Try.f6 Rows.kvRangesRow.domain false) (Rows.kvRangesSpec.post enc Try.prog Try.f6 false true false false) := by
  refine returnsInHanded_of_change (C := Try.checked) Try.own started (by kernel_rfl) Try.func6
    (ChangeSpec.witness6 (enc := enc) (C := Try.checked) false ⟨#[], #[.slice none 0 0, .int .i64 0, .int .i64 0, .int .i64 0, .slice none 0 0], []⟩ 40 (by kernel_rfl) (by kernel_rfl) (by kernel_rfl) (by kernel_rfl)) ?_
  intro W base args ds gs before hval0 hW hcnd _
  have hval : ∀ (j : Nat) t v, Try.f6.params[j]? = some t → args[j]? = some v → Value.okWide Try.prog W .any base t v := hval0
  have hW' := hW
  obtain ⟨p, q, hA0, hV, rfl, hfz, hnd⟩ := hW
  have hA : DataW.TrodAll enc Try.prog W 0 (fun _ => true) true Try.f6.params.toList args.toList ds p := hA0
  rw [Try.params6] at hA hval
  have hAk := hA
  obtain ⟨v0, v1, v2, v3, v4, d0, d1, d2, d3, d4, p0, p1, p2, p3, p4, rfl, rfl, rfl, h0, h1, h2, h3, h4⟩ := trodAll_five' hA
  obtain ⟨rfl, rfl⟩ := trodVars_none hV
  have in0 : SlIn W zI v0 := arg_slice (n := 8) (by kernel_rfl) (by decide +kernel) Try.underlying32 (by kernel_rfl) (hval 0 32 v0 rfl rfl) h0
  obtain ⟨a1, rfl, rfl, rfl, wa1⟩ := open_int Try.underlying3 (hval 1 3 v1 rfl rfl) h1
  obtain ⟨a2, rfl, rfl, rfl, wa2⟩ := open_int Try.underlying3 (hval 2 3 v2 rfl rfl) h2
  obtain ⟨a3, rfl, rfl, rfl, wa3⟩ := open_int Try.underlying3 (hval 3 3 v3 rfl rfl) h3
  have in4 : SlIn W zP v4 := arg_slice (n := 8) (by kernel_rfl) (by decide +kernel) Try.underlying22 (by kernel_rfl) (hval 4 22 v4 rfl rfl) h4
  clear hA0 hval0
  have hlt : ∀ x ∈ p0 ++ [] ++ [] ++ [] ++ p4 ++ ([] : List MemPlace), x.block < W.heap.size := fun x hx => hW'.lt x (by simpa using hx)
  refine (kvRanges_calls W v0 in0 a1 (i64_range wa1) a2 (i64_range wa2) a3 (i64_range wa3) v4 in4).mono fun e W' ⟨hb, he⟩ => ?_
  subst he
  exact ⟨_, rfl, post_below (pa := p0 ++ [] ++ [] ++ [] ++ p4 ++ []) (pv := []) hW' (fun _ _ _ => trodAll_mk1 (shut_bool Try.underlying4 true)) (fun sp hsp => trodAll_stays (by kernel_rfl) hb (by decide +kernel) hAk hlt (fun x hx => hsp x (by simpa using hx))) (fun _ _ => rfl) (by simp) hb (ok_one (by kernel_rfl) rfl (okWide_bool_mk Try.underlying4 true))⟩

theorem kvRanges_holds : Rows.KvRangesSaid :=
  OpenClaim.holds_of_wide 6 Try.f6 rfl rfl rfl rfl rfl rfl rfl ⟨rfl, rfl, rfl, rfl, rfl⟩ rfl rfl rfl rfl rfl (by kernel_rfl) Try.func6 (by kernel_rfl)
    (of_decide_eq_true (by kernel_rfl)) (by unfold Func.isWrapper; first | (rw [if_pos (by decide +kernel)]; kernel_rfl) | (rw [if_neg (by decide +kernel)]; exact ⟨rfl, rfl⟩))
    (fun os started H enc _ => kvRanges_lifted os started H enc)
end Go.Proofs.Ytolkoacllaaceaa
end
