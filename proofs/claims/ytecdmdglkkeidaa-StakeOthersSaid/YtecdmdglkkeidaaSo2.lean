/-
  What the text asks for.
-/
import Derived.Test.YtecdmdglkkeidaaSo1
import Derived.Test.YtecdmdglkkeidaaFw5
section
namespace Go.Proofs.Ytecdmdglkkeidaa
open Go.Abs Go
set_option maxRecDepth 100000 in
theorem delg_vc (g : KvF) (t : StF) (xs : List Value) (s : ByteArray) (a : Int) : runP std (stkCon std g t) 60 noL (delgP std t) 9 Try.f9 (xs, s, a, ()) =
  ((((std.slen (ByteArray.mk (Array.mk [(115 : UInt8), (47 : UInt8)]))) + (std.slen s)) ≤ 9223372036854775807) ∧ ((((std.seq s (ByteArray.mk (Array.mk []))) = true) → ([(dsl zP xs), (Value.int IntKind.i64 (1 : Int))] = [(dsl zP (t.stk (1 : Int) xs s a (0 : Int))), (Value.int IntKind.i64 (t.ster (1 : Int) xs s a (0 : Int)))])) ∧ (((std.seq s (ByteArray.mk (Array.mk []))) = false) → ((((decide ((16 : Int) < ((std.slen ((ByteArray.mk (Array.mk [(115 : UInt8), (47 : UInt8)])) ++ s)) : Int))) = true) → ([(dsl zP xs), (Value.int IntKind.i64 (1 : Int))] = [(dsl zP (t.stk (1 : Int) xs s a (0 : Int))), (Value.int IntKind.i64 (t.ster (1 : Int) xs s a (0 : Int)))])) ∧ (((decide ((16 : Int) < ((std.slen ((ByteArray.mk (Array.mk [(115 : UInt8), (47 : UInt8)])) ++ s)) : Int))) = false) → ((((decide ((0 : Int) ≤ a)) = true) → ((((decide (a ≤ (1073741824 : Int))) = true) → (((List.length xs) ≤ 1000000) ∧ ((((g.fd xs ((ByteArray.mk (Array.mk [(115 : UInt8), (47 : UInt8)])) ++ s)) = true) → (((std.slen (g.get xs ((ByteArray.mk (Array.mk [(115 : UInt8), (47 : UInt8)])) ++ s))) ≤ 4000000) ∧ ((((t.rok (g.get xs ((ByteArray.mk (Array.mk [(115 : UInt8), (47 : UInt8)])) ++ s))) = true) → ((((-9223372036854775808 : Int) ≤ ((t.rtok (g.get xs ((ByteArray.mk (Array.mk [(115 : UInt8), (47 : UInt8)])) ++ s))) + a)) ∧ (((t.rtok (g.get xs ((ByteArray.mk (Array.mk [(115 : UInt8), (47 : UInt8)])) ++ s))) + a) ≤ (9223372036854775807 : Int))) ∧ (((((-9223372036854775808 : Int) ≤ ((t.rtok (g.get xs ((ByteArray.mk (Array.mk [(115 : UInt8), (47 : UInt8)])) ++ s))) + a)) ∧ (((t.rtok (g.get xs ((ByteArray.mk (Array.mk [(115 : UInt8), (47 : UInt8)])) ++ s))) + a) ≤ (9223372036854775807 : Int))) ∧ (((-9223372036854775808 : Int) ≤ (t.rrew (g.get xs ((ByteArray.mk (Array.mk [(115 : UInt8), (47 : UInt8)])) ++ s)))) ∧ ((t.rrew (g.get xs ((ByteArray.mk (Array.mk [(115 : UInt8), (47 : UInt8)])) ++ s))) ≤ (9223372036854775807 : Int)))) ∧ (((List.length xs) ≤ 1000000) ∧ ((((g.setok xs ((ByteArray.mk (Array.mk [(115 : UInt8), (47 : UInt8)])) ++ s) (t.rcd ((t.rtok (g.get xs ((ByteArray.mk (Array.mk [(115 : UInt8), (47 : UInt8)])) ++ s))) + a) (t.rrew (g.get xs ((ByteArray.mk (Array.mk [(115 : UInt8), (47 : UInt8)])) ++ s))))) = true) → ((((List.length (g.set xs ((ByteArray.mk (Array.mk [(115 : UInt8), (47 : UInt8)])) ++ s) (t.rcd ((t.rtok (g.get xs ((ByteArray.mk (Array.mk [(115 : UInt8), (47 : UInt8)])) ++ s))) + a) (t.rrew (g.get xs ((ByteArray.mk (Array.mk [(115 : UInt8), (47 : UInt8)])) ++ s)))))) ≤ 1000000) ∧ (∀ (i14 : Nat), ((i14 < (List.length (g.set xs ((ByteArray.mk (Array.mk [(115 : UInt8), (47 : UInt8)])) ++ s) (t.rcd ((t.rtok (g.get xs ((ByteArray.mk (Array.mk [(115 : UInt8), (47 : UInt8)])) ++ s))) + a) (t.rrew (g.get xs ((ByteArray.mk (Array.mk [(115 : UInt8), (47 : UInt8)])) ++ s))))))) → ((std.slen (vP (g.set xs ((ByteArray.mk (Array.mk [(115 : UInt8), (47 : UInt8)])) ++ s) (t.rcd ((t.rtok (g.get xs ((ByteArray.mk (Array.mk [(115 : UInt8), (47 : UInt8)])) ++ s))) + a) (t.rrew (g.get xs ((ByteArray.mk (Array.mk [(115 : UInt8), (47 : UInt8)])) ++ s))))) i14)) ≤ 4000000)))) ∧ ((((t.bok (g.set xs ((ByteArray.mk (Array.mk [(115 : UInt8), (47 : UInt8)])) ++ s) (t.rcd ((t.rtok (g.get xs ((ByteArray.mk (Array.mk [(115 : UInt8), (47 : UInt8)])) ++ s))) + a) (t.rrew (g.get xs ((ByteArray.mk (Array.mk [(115 : UInt8), (47 : UInt8)])) ++ s)))))) = true) → ([(dsl zP (g.set xs ((ByteArray.mk (Array.mk [(115 : UInt8), (47 : UInt8)])) ++ s) (t.rcd ((t.rtok (g.get xs ((ByteArray.mk (Array.mk [(115 : UInt8), (47 : UInt8)])) ++ s))) + a) (t.rrew (g.get xs ((ByteArray.mk (Array.mk [(115 : UInt8), (47 : UInt8)])) ++ s)))))), (Value.int IntKind.i64 (0 : Int))] = [(dsl zP (t.stk (1 : Int) xs s a (0 : Int))), (Value.int IntKind.i64 (t.ster (1 : Int) xs s a (0 : Int)))])) ∧ (((t.bok (g.set xs ((ByteArray.mk (Array.mk [(115 : UInt8), (47 : UInt8)])) ++ s) (t.rcd ((t.rtok (g.get xs ((ByteArray.mk (Array.mk [(115 : UInt8), (47 : UInt8)])) ++ s))) + a) (t.rrew (g.get xs ((ByteArray.mk (Array.mk [(115 : UInt8), (47 : UInt8)])) ++ s)))))) = false) → ([(dsl zP xs), (Value.int IntKind.i64 (11 : Int))] = [(dsl zP (t.stk (1 : Int) xs s a (0 : Int))), (Value.int IntKind.i64 (t.ster (1 : Int) xs s a (0 : Int)))]))))) ∧ (((g.setok xs ((ByteArray.mk (Array.mk [(115 : UInt8), (47 : UInt8)])) ++ s) (t.rcd ((t.rtok (g.get xs ((ByteArray.mk (Array.mk [(115 : UInt8), (47 : UInt8)])) ++ s))) + a) (t.rrew (g.get xs ((ByteArray.mk (Array.mk [(115 : UInt8), (47 : UInt8)])) ++ s))))) = false) → ([(dsl zP xs), (Value.int IntKind.i64 (7 : Int))] = [(dsl zP (t.stk (1 : Int) xs s a (0 : Int))), (Value.int IntKind.i64 (t.ster (1 : Int) xs s a (0 : Int)))]))))))) ∧ (((t.rok (g.get xs ((ByteArray.mk (Array.mk [(115 : UInt8), (47 : UInt8)])) ++ s))) = false) → ([(dsl zP xs), (Value.int IntKind.i64 (1 : Int))] = [(dsl zP (t.stk (1 : Int) xs s a (0 : Int))), (Value.int IntKind.i64 (t.ster (1 : Int) xs s a (0 : Int)))]))))) ∧ (((g.fd xs ((ByteArray.mk (Array.mk [(115 : UInt8), (47 : UInt8)])) ++ s)) = false) → (((std.slen (g.get xs ((ByteArray.mk (Array.mk [(115 : UInt8), (47 : UInt8)])) ++ s))) ≤ 4000000) ∧ ((((t.rok (g.get xs ((ByteArray.mk (Array.mk [(115 : UInt8), (47 : UInt8)])) ++ s))) = true) → ((((-9223372036854775808 : Int) ≤ ((t.rtok (g.get xs ((ByteArray.mk (Array.mk [(115 : UInt8), (47 : UInt8)])) ++ s))) + a)) ∧ (((t.rtok (g.get xs ((ByteArray.mk (Array.mk [(115 : UInt8), (47 : UInt8)])) ++ s))) + a) ≤ (9223372036854775807 : Int))) ∧ (((((-9223372036854775808 : Int) ≤ ((t.rtok (g.get xs ((ByteArray.mk (Array.mk [(115 : UInt8), (47 : UInt8)])) ++ s))) + a)) ∧ (((t.rtok (g.get xs ((ByteArray.mk (Array.mk [(115 : UInt8), (47 : UInt8)])) ++ s))) + a) ≤ (9223372036854775807 : Int))) ∧ (((-9223372036854775808 : Int) ≤ (t.rrew (g.get xs ((ByteArray.mk (Array.mk [(115 : UInt8), (47 : UInt8)])) ++ s)))) ∧ ((t.rrew (g.get xs ((ByteArray.mk (Array.mk [(115 : UInt8), (47 : UInt8)])) ++ s))) ≤ (9223372036854775807 : Int)))) ∧ (((List.length xs) ≤ 1000000) ∧ ((((g.setok xs ((ByteArray.mk (Array.mk [(115 : UInt8), (47 : UInt8)])) ++ s) (t.rcd ((t.rtok (g.get xs ((ByteArray.mk (Array.mk [(115 : UInt8), (47 : UInt8)])) ++ s))) + a) (t.rrew (g.get xs ((ByteArray.mk (Array.mk [(115 : UInt8), (47 : UInt8)])) ++ s))))) = true) → ((((List.length (g.set xs ((ByteArray.mk (Array.mk [(115 : UInt8), (47 : UInt8)])) ++ s) (t.rcd ((t.rtok (g.get xs ((ByteArray.mk (Array.mk [(115 : UInt8), (47 : UInt8)])) ++ s))) + a) (t.rrew (g.get xs ((ByteArray.mk (Array.mk [(115 : UInt8), (47 : UInt8)])) ++ s)))))) ≤ 1000000) ∧ (∀ (i14 : Nat), ((i14 < (List.length (g.set xs ((ByteArray.mk (Array.mk [(115 : UInt8), (47 : UInt8)])) ++ s) (t.rcd ((t.rtok (g.get xs ((ByteArray.mk (Array.mk [(115 : UInt8), (47 : UInt8)])) ++ s))) + a) (t.rrew (g.get xs ((ByteArray.mk (Array.mk [(115 : UInt8), (47 : UInt8)])) ++ s))))))) → ((std.slen (vP (g.set xs ((ByteArray.mk (Array.mk [(115 : UInt8), (47 : UInt8)])) ++ s) (t.rcd ((t.rtok (g.get xs ((ByteArray.mk (Array.mk [(115 : UInt8), (47 : UInt8)])) ++ s))) + a) (t.rrew (g.get xs ((ByteArray.mk (Array.mk [(115 : UInt8), (47 : UInt8)])) ++ s))))) i14)) ≤ 4000000)))) ∧ ((((t.bok (g.set xs ((ByteArray.mk (Array.mk [(115 : UInt8), (47 : UInt8)])) ++ s) (t.rcd ((t.rtok (g.get xs ((ByteArray.mk (Array.mk [(115 : UInt8), (47 : UInt8)])) ++ s))) + a) (t.rrew (g.get xs ((ByteArray.mk (Array.mk [(115 : UInt8), (47 : UInt8)])) ++ s)))))) = true) → ([(dsl zP (g.set xs ((ByteArray.mk (Array.mk [(115 : UInt8), (47 : UInt8)])) ++ s) (t.rcd ((t.rtok (g.get xs ((ByteArray.mk (Array.mk [(115 : UInt8), (47 : UInt8)])) ++ s))) + a) (t.rrew (g.get xs ((ByteArray.mk (Array.mk [(115 : UInt8), (47 : UInt8)])) ++ s)))))), (Value.int IntKind.i64 (0 : Int))] = [(dsl zP (t.stk (1 : Int) xs s a (0 : Int))), (Value.int IntKind.i64 (t.ster (1 : Int) xs s a (0 : Int)))])) ∧ (((t.bok (g.set xs ((ByteArray.mk (Array.mk [(115 : UInt8), (47 : UInt8)])) ++ s) (t.rcd ((t.rtok (g.get xs ((ByteArray.mk (Array.mk [(115 : UInt8), (47 : UInt8)])) ++ s))) + a) (t.rrew (g.get xs ((ByteArray.mk (Array.mk [(115 : UInt8), (47 : UInt8)])) ++ s)))))) = false) → ([(dsl zP xs), (Value.int IntKind.i64 (11 : Int))] = [(dsl zP (t.stk (1 : Int) xs s a (0 : Int))), (Value.int IntKind.i64 (t.ster (1 : Int) xs s a (0 : Int)))]))))) ∧ (((g.setok xs ((ByteArray.mk (Array.mk [(115 : UInt8), (47 : UInt8)])) ++ s) (t.rcd ((t.rtok (g.get xs ((ByteArray.mk (Array.mk [(115 : UInt8), (47 : UInt8)])) ++ s))) + a) (t.rrew (g.get xs ((ByteArray.mk (Array.mk [(115 : UInt8), (47 : UInt8)])) ++ s))))) = false) → ([(dsl zP xs), (Value.int IntKind.i64 (7 : Int))] = [(dsl zP (t.stk (1 : Int) xs s a (0 : Int))), (Value.int IntKind.i64 (t.ster (1 : Int) xs s a (0 : Int)))]))))))) ∧ (((t.rok (g.get xs ((ByteArray.mk (Array.mk [(115 : UInt8), (47 : UInt8)])) ++ s))) = false) → ((((-9223372036854775808 : Int) ≤ ((t.rtok (g.get xs ((ByteArray.mk (Array.mk [(115 : UInt8), (47 : UInt8)])) ++ s))) + a)) ∧ (((t.rtok (g.get xs ((ByteArray.mk (Array.mk [(115 : UInt8), (47 : UInt8)])) ++ s))) + a) ≤ (9223372036854775807 : Int))) ∧ (((((-9223372036854775808 : Int) ≤ ((t.rtok (g.get xs ((ByteArray.mk (Array.mk [(115 : UInt8), (47 : UInt8)])) ++ s))) + a)) ∧ (((t.rtok (g.get xs ((ByteArray.mk (Array.mk [(115 : UInt8), (47 : UInt8)])) ++ s))) + a) ≤ (9223372036854775807 : Int))) ∧ (((-9223372036854775808 : Int) ≤ (t.rrew (g.get xs ((ByteArray.mk (Array.mk [(115 : UInt8), (47 : UInt8)])) ++ s)))) ∧ ((t.rrew (g.get xs ((ByteArray.mk (Array.mk [(115 : UInt8), (47 : UInt8)])) ++ s))) ≤ (9223372036854775807 : Int)))) ∧ (((List.length xs) ≤ 1000000) ∧ ((((g.setok xs ((ByteArray.mk (Array.mk [(115 : UInt8), (47 : UInt8)])) ++ s) (t.rcd ((t.rtok (g.get xs ((ByteArray.mk (Array.mk [(115 : UInt8), (47 : UInt8)])) ++ s))) + a) (t.rrew (g.get xs ((ByteArray.mk (Array.mk [(115 : UInt8), (47 : UInt8)])) ++ s))))) = true) → ((((List.length (g.set xs ((ByteArray.mk (Array.mk [(115 : UInt8), (47 : UInt8)])) ++ s) (t.rcd ((t.rtok (g.get xs ((ByteArray.mk (Array.mk [(115 : UInt8), (47 : UInt8)])) ++ s))) + a) (t.rrew (g.get xs ((ByteArray.mk (Array.mk [(115 : UInt8), (47 : UInt8)])) ++ s)))))) ≤ 1000000) ∧ (∀ (i14 : Nat), ((i14 < (List.length (g.set xs ((ByteArray.mk (Array.mk [(115 : UInt8), (47 : UInt8)])) ++ s) (t.rcd ((t.rtok (g.get xs ((ByteArray.mk (Array.mk [(115 : UInt8), (47 : UInt8)])) ++ s))) + a) (t.rrew (g.get xs ((ByteArray.mk (Array.mk [(115 : UInt8), (47 : UInt8)])) ++ s))))))) → ((std.slen (vP (g.set xs ((ByteArray.mk (Array.mk [(115 : UInt8), (47 : UInt8)])) ++ s) (t.rcd ((t.rtok (g.get xs ((ByteArray.mk (Array.mk [(115 : UInt8), (47 : UInt8)])) ++ s))) + a) (t.rrew (g.get xs ((ByteArray.mk (Array.mk [(115 : UInt8), (47 : UInt8)])) ++ s))))) i14)) ≤ 4000000)))) ∧ ((((t.bok (g.set xs ((ByteArray.mk (Array.mk [(115 : UInt8), (47 : UInt8)])) ++ s) (t.rcd ((t.rtok (g.get xs ((ByteArray.mk (Array.mk [(115 : UInt8), (47 : UInt8)])) ++ s))) + a) (t.rrew (g.get xs ((ByteArray.mk (Array.mk [(115 : UInt8), (47 : UInt8)])) ++ s)))))) = true) → ([(dsl zP (g.set xs ((ByteArray.mk (Array.mk [(115 : UInt8), (47 : UInt8)])) ++ s) (t.rcd ((t.rtok (g.get xs ((ByteArray.mk (Array.mk [(115 : UInt8), (47 : UInt8)])) ++ s))) + a) (t.rrew (g.get xs ((ByteArray.mk (Array.mk [(115 : UInt8), (47 : UInt8)])) ++ s)))))), (Value.int IntKind.i64 (0 : Int))] = [(dsl zP (t.stk (1 : Int) xs s a (0 : Int))), (Value.int IntKind.i64 (t.ster (1 : Int) xs s a (0 : Int)))])) ∧ (((t.bok (g.set xs ((ByteArray.mk (Array.mk [(115 : UInt8), (47 : UInt8)])) ++ s) (t.rcd ((t.rtok (g.get xs ((ByteArray.mk (Array.mk [(115 : UInt8), (47 : UInt8)])) ++ s))) + a) (t.rrew (g.get xs ((ByteArray.mk (Array.mk [(115 : UInt8), (47 : UInt8)])) ++ s)))))) = false) → ([(dsl zP xs), (Value.int IntKind.i64 (11 : Int))] = [(dsl zP (t.stk (1 : Int) xs s a (0 : Int))), (Value.int IntKind.i64 (t.ster (1 : Int) xs s a (0 : Int)))]))))) ∧ (((g.setok xs ((ByteArray.mk (Array.mk [(115 : UInt8), (47 : UInt8)])) ++ s) (t.rcd ((t.rtok (g.get xs ((ByteArray.mk (Array.mk [(115 : UInt8), (47 : UInt8)])) ++ s))) + a) (t.rrew (g.get xs ((ByteArray.mk (Array.mk [(115 : UInt8), (47 : UInt8)])) ++ s))))) = false) → ([(dsl zP xs), (Value.int IntKind.i64 (7 : Int))] = [(dsl zP (t.stk (1 : Int) xs s a (0 : Int))), (Value.int IntKind.i64 (t.ster (1 : Int) xs s a (0 : Int)))]))))))))))))) ∧ (((decide (a ≤ (1073741824 : Int))) = false) → ([(dsl zP xs), (Value.int IntKind.i64 (1 : Int))] = [(dsl zP (t.stk (1 : Int) xs s a (0 : Int))), (Value.int IntKind.i64 (t.ster (1 : Int) xs s a (0 : Int)))])))) ∧ (((decide ((0 : Int) ≤ a)) = false) → ([(dsl zP xs), (Value.int IntKind.i64 (1 : Int))] = [(dsl zP (t.stk (1 : Int) xs s a (0 : Int))), (Value.int IntKind.i64 (t.ster (1 : Int) xs s a (0 : Int)))])))))))) := by kernel_rfl
set_option maxRecDepth 100000 in
theorem rwd_vc (g : KvF) (t : StF) (xs : List Value) (s : ByteArray) (a : Int) : runP std (stkCon std g t) 60 noL (rwdP std t) 11 Try.f11 (xs, s, a, ()) =
  ((((std.slen (ByteArray.mk (Array.mk [(115 : UInt8), (47 : UInt8)]))) + (std.slen s)) ≤ 9223372036854775807) ∧ ((((std.seq s (ByteArray.mk (Array.mk []))) = true) → ([(dsl zP xs), (Value.int IntKind.i64 (1 : Int))] = [(dsl zP (t.stk (2 : Int) xs s a (0 : Int))), (Value.int IntKind.i64 (t.ster (2 : Int) xs s a (0 : Int)))])) ∧ (((std.seq s (ByteArray.mk (Array.mk []))) = false) → ((((decide ((16 : Int) < ((std.slen ((ByteArray.mk (Array.mk [(115 : UInt8), (47 : UInt8)])) ++ s)) : Int))) = true) → ([(dsl zP xs), (Value.int IntKind.i64 (1 : Int))] = [(dsl zP (t.stk (2 : Int) xs s a (0 : Int))), (Value.int IntKind.i64 (t.ster (2 : Int) xs s a (0 : Int)))])) ∧ (((decide ((16 : Int) < ((std.slen ((ByteArray.mk (Array.mk [(115 : UInt8), (47 : UInt8)])) ++ s)) : Int))) = false) → ((((decide ((0 : Int) ≤ a)) = true) → ((((decide (a ≤ (1073741824 : Int))) = true) → (((List.length xs) ≤ 1000000) ∧ ((((g.fd xs ((ByteArray.mk (Array.mk [(115 : UInt8), (47 : UInt8)])) ++ s)) = true) → (((std.slen (g.get xs ((ByteArray.mk (Array.mk [(115 : UInt8), (47 : UInt8)])) ++ s))) ≤ 4000000) ∧ ((((t.rok (g.get xs ((ByteArray.mk (Array.mk [(115 : UInt8), (47 : UInt8)])) ++ s))) = true) → ((((-9223372036854775808 : Int) ≤ ((t.rrew (g.get xs ((ByteArray.mk (Array.mk [(115 : UInt8), (47 : UInt8)])) ++ s))) + a)) ∧ (((t.rrew (g.get xs ((ByteArray.mk (Array.mk [(115 : UInt8), (47 : UInt8)])) ++ s))) + a) ≤ (9223372036854775807 : Int))) ∧ (((((-9223372036854775808 : Int) ≤ (t.rtok (g.get xs ((ByteArray.mk (Array.mk [(115 : UInt8), (47 : UInt8)])) ++ s)))) ∧ ((t.rtok (g.get xs ((ByteArray.mk (Array.mk [(115 : UInt8), (47 : UInt8)])) ++ s))) ≤ (9223372036854775807 : Int))) ∧ (((-9223372036854775808 : Int) ≤ ((t.rrew (g.get xs ((ByteArray.mk (Array.mk [(115 : UInt8), (47 : UInt8)])) ++ s))) + a)) ∧ (((t.rrew (g.get xs ((ByteArray.mk (Array.mk [(115 : UInt8), (47 : UInt8)])) ++ s))) + a) ≤ (9223372036854775807 : Int)))) ∧ (((List.length xs) ≤ 1000000) ∧ ((((g.setok xs ((ByteArray.mk (Array.mk [(115 : UInt8), (47 : UInt8)])) ++ s) (t.rcd (t.rtok (g.get xs ((ByteArray.mk (Array.mk [(115 : UInt8), (47 : UInt8)])) ++ s))) ((t.rrew (g.get xs ((ByteArray.mk (Array.mk [(115 : UInt8), (47 : UInt8)])) ++ s))) + a))) = true) → ((((List.length (g.set xs ((ByteArray.mk (Array.mk [(115 : UInt8), (47 : UInt8)])) ++ s) (t.rcd (t.rtok (g.get xs ((ByteArray.mk (Array.mk [(115 : UInt8), (47 : UInt8)])) ++ s))) ((t.rrew (g.get xs ((ByteArray.mk (Array.mk [(115 : UInt8), (47 : UInt8)])) ++ s))) + a)))) ≤ 1000000) ∧ (∀ (i14 : Nat), ((i14 < (List.length (g.set xs ((ByteArray.mk (Array.mk [(115 : UInt8), (47 : UInt8)])) ++ s) (t.rcd (t.rtok (g.get xs ((ByteArray.mk (Array.mk [(115 : UInt8), (47 : UInt8)])) ++ s))) ((t.rrew (g.get xs ((ByteArray.mk (Array.mk [(115 : UInt8), (47 : UInt8)])) ++ s))) + a))))) → ((std.slen (vP (g.set xs ((ByteArray.mk (Array.mk [(115 : UInt8), (47 : UInt8)])) ++ s) (t.rcd (t.rtok (g.get xs ((ByteArray.mk (Array.mk [(115 : UInt8), (47 : UInt8)])) ++ s))) ((t.rrew (g.get xs ((ByteArray.mk (Array.mk [(115 : UInt8), (47 : UInt8)])) ++ s))) + a))) i14)) ≤ 4000000)))) ∧ ((((t.bok (g.set xs ((ByteArray.mk (Array.mk [(115 : UInt8), (47 : UInt8)])) ++ s) (t.rcd (t.rtok (g.get xs ((ByteArray.mk (Array.mk [(115 : UInt8), (47 : UInt8)])) ++ s))) ((t.rrew (g.get xs ((ByteArray.mk (Array.mk [(115 : UInt8), (47 : UInt8)])) ++ s))) + a)))) = true) → ([(dsl zP (g.set xs ((ByteArray.mk (Array.mk [(115 : UInt8), (47 : UInt8)])) ++ s) (t.rcd (t.rtok (g.get xs ((ByteArray.mk (Array.mk [(115 : UInt8), (47 : UInt8)])) ++ s))) ((t.rrew (g.get xs ((ByteArray.mk (Array.mk [(115 : UInt8), (47 : UInt8)])) ++ s))) + a)))), (Value.int IntKind.i64 (0 : Int))] = [(dsl zP (t.stk (2 : Int) xs s a (0 : Int))), (Value.int IntKind.i64 (t.ster (2 : Int) xs s a (0 : Int)))])) ∧ (((t.bok (g.set xs ((ByteArray.mk (Array.mk [(115 : UInt8), (47 : UInt8)])) ++ s) (t.rcd (t.rtok (g.get xs ((ByteArray.mk (Array.mk [(115 : UInt8), (47 : UInt8)])) ++ s))) ((t.rrew (g.get xs ((ByteArray.mk (Array.mk [(115 : UInt8), (47 : UInt8)])) ++ s))) + a)))) = false) → ([(dsl zP xs), (Value.int IntKind.i64 (11 : Int))] = [(dsl zP (t.stk (2 : Int) xs s a (0 : Int))), (Value.int IntKind.i64 (t.ster (2 : Int) xs s a (0 : Int)))]))))) ∧ (((g.setok xs ((ByteArray.mk (Array.mk [(115 : UInt8), (47 : UInt8)])) ++ s) (t.rcd (t.rtok (g.get xs ((ByteArray.mk (Array.mk [(115 : UInt8), (47 : UInt8)])) ++ s))) ((t.rrew (g.get xs ((ByteArray.mk (Array.mk [(115 : UInt8), (47 : UInt8)])) ++ s))) + a))) = false) → ([(dsl zP xs), (Value.int IntKind.i64 (7 : Int))] = [(dsl zP (t.stk (2 : Int) xs s a (0 : Int))), (Value.int IntKind.i64 (t.ster (2 : Int) xs s a (0 : Int)))]))))))) ∧ (((t.rok (g.get xs ((ByteArray.mk (Array.mk [(115 : UInt8), (47 : UInt8)])) ++ s))) = false) → ([(dsl zP xs), (Value.int IntKind.i64 (1 : Int))] = [(dsl zP (t.stk (2 : Int) xs s a (0 : Int))), (Value.int IntKind.i64 (t.ster (2 : Int) xs s a (0 : Int)))]))))) ∧ (((g.fd xs ((ByteArray.mk (Array.mk [(115 : UInt8), (47 : UInt8)])) ++ s)) = false) → (((std.slen (g.get xs ((ByteArray.mk (Array.mk [(115 : UInt8), (47 : UInt8)])) ++ s))) ≤ 4000000) ∧ ((((t.rok (g.get xs ((ByteArray.mk (Array.mk [(115 : UInt8), (47 : UInt8)])) ++ s))) = true) → ([(dsl zP xs), (Value.int IntKind.i64 (3 : Int))] = [(dsl zP (t.stk (2 : Int) xs s a (0 : Int))), (Value.int IntKind.i64 (t.ster (2 : Int) xs s a (0 : Int)))])) ∧ (((t.rok (g.get xs ((ByteArray.mk (Array.mk [(115 : UInt8), (47 : UInt8)])) ++ s))) = false) → ([(dsl zP xs), (Value.int IntKind.i64 (3 : Int))] = [(dsl zP (t.stk (2 : Int) xs s a (0 : Int))), (Value.int IntKind.i64 (t.ster (2 : Int) xs s a (0 : Int)))])))))))) ∧ (((decide (a ≤ (1073741824 : Int))) = false) → ([(dsl zP xs), (Value.int IntKind.i64 (1 : Int))] = [(dsl zP (t.stk (2 : Int) xs s a (0 : Int))), (Value.int IntKind.i64 (t.ster (2 : Int) xs s a (0 : Int)))])))) ∧ (((decide ((0 : Int) ≤ a)) = false) → ([(dsl zP xs), (Value.int IntKind.i64 (1 : Int))] = [(dsl zP (t.stk (2 : Int) xs s a (0 : Int))), (Value.int IntKind.i64 (t.ster (2 : Int) xs s a (0 : Int)))])))))))) := by kernel_rfl
set_option maxRecDepth 100000 in
theorem sla_vc (g : KvF) (t : StF) (xs : List Value) (s : ByteArray) (a b : Int) : runP std (stkCon std g t) 60 noL (slaP std t) 10 Try.f10 (xs, s, a, b, ()) =
  ((((std.slen (ByteArray.mk (Array.mk [(115 : UInt8), (47 : UInt8)]))) + (std.slen s)) ≤ 9223372036854775807) ∧ ((((std.seq s (ByteArray.mk (Array.mk []))) = true) → ([(dsl zP xs), (Value.int IntKind.i64 (1 : Int))] = [(dsl zP (t.stk (3 : Int) xs s a b)), (Value.int IntKind.i64 (t.ster (3 : Int) xs s a b))])) ∧ (((std.seq s (ByteArray.mk (Array.mk []))) = false) → ((((decide ((16 : Int) < ((std.slen ((ByteArray.mk (Array.mk [(115 : UInt8), (47 : UInt8)])) ++ s)) : Int))) = true) → ([(dsl zP xs), (Value.int IntKind.i64 (1 : Int))] = [(dsl zP (t.stk (3 : Int) xs s a b)), (Value.int IntKind.i64 (t.ster (3 : Int) xs s a b))])) ∧ (((decide ((16 : Int) < ((std.slen ((ByteArray.mk (Array.mk [(115 : UInt8), (47 : UInt8)])) ++ s)) : Int))) = false) → ((((decide ((0 : Int) ≤ a)) = true) → ((((decide (a ≤ (1073741824 : Int))) = true) → (((List.length xs) ≤ 1000000) ∧ ((((g.fd xs ((ByteArray.mk (Array.mk [(115 : UInt8), (47 : UInt8)])) ++ s)) = true) → (((std.slen (g.get xs ((ByteArray.mk (Array.mk [(115 : UInt8), (47 : UInt8)])) ++ s))) ≤ 4000000) ∧ ((((t.rok (g.get xs ((ByteArray.mk (Array.mk [(115 : UInt8), (47 : UInt8)])) ++ s))) = true) → ((((decide (b < (1 : Int))) = true) → ([(dsl zP xs), (Value.int IntKind.i64 (1 : Int))] = [(dsl zP (t.stk (3 : Int) xs s a b)), (Value.int IntKind.i64 (t.ster (3 : Int) xs s a b))])) ∧ (((decide (b < (1 : Int))) = false) → ((((decide ((1048576 : Int) < b)) = true) → ([(dsl zP xs), (Value.int IntKind.i64 (1 : Int))] = [(dsl zP (t.stk (3 : Int) xs s a b)), (Value.int IntKind.i64 (t.ster (3 : Int) xs s a b))])) ∧ (((decide ((1048576 : Int) < b)) = false) → ((((decide (b < a)) = true) → ([(dsl zP xs), (Value.int IntKind.i64 (1 : Int))] = [(dsl zP (t.stk (3 : Int) xs s a b)), (Value.int IntKind.i64 (t.ster (3 : Int) xs s a b))])) ∧ (((decide (b < a)) = false) → ((((-9223372036854775808 : Int) ≤ (b - a)) ∧ ((b - a) ≤ (9223372036854775807 : Int))) ∧ ((((-9223372036854775808 : Int) ≤ ((t.rtok (g.get xs ((ByteArray.mk (Array.mk [(115 : UInt8), (47 : UInt8)])) ++ s))) * (b - a))) ∧ (((t.rtok (g.get xs ((ByteArray.mk (Array.mk [(115 : UInt8), (47 : UInt8)])) ++ s))) * (b - a)) ≤ (9223372036854775807 : Int))) ∧ ((((0 : Int) < b) ∧ (((-9223372036854775808 : Int) ≤ ((t.rtok (g.get xs ((ByteArray.mk (Array.mk [(115 : UInt8), (47 : UInt8)])) ++ s))) * (b - a))) ∧ (((t.rtok (g.get xs ((ByteArray.mk (Array.mk [(115 : UInt8), (47 : UInt8)])) ++ s))) * (b - a)) ≤ (9223372036854775807 : Int)))) ∧ (((((-9223372036854775808 : Int) ≤ (std.quo ((t.rtok (g.get xs ((ByteArray.mk (Array.mk [(115 : UInt8), (47 : UInt8)])) ++ s))) * (b - a)) b)) ∧ ((std.quo ((t.rtok (g.get xs ((ByteArray.mk (Array.mk [(115 : UInt8), (47 : UInt8)])) ++ s))) * (b - a)) b) ≤ (9223372036854775807 : Int))) ∧ (((-9223372036854775808 : Int) ≤ (t.rrew (g.get xs ((ByteArray.mk (Array.mk [(115 : UInt8), (47 : UInt8)])) ++ s)))) ∧ ((t.rrew (g.get xs ((ByteArray.mk (Array.mk [(115 : UInt8), (47 : UInt8)])) ++ s))) ≤ (9223372036854775807 : Int)))) ∧ (((List.length xs) ≤ 1000000) ∧ ((((g.setok xs ((ByteArray.mk (Array.mk [(115 : UInt8), (47 : UInt8)])) ++ s) (t.rcd (std.quo ((t.rtok (g.get xs ((ByteArray.mk (Array.mk [(115 : UInt8), (47 : UInt8)])) ++ s))) * (b - a)) b) (t.rrew (g.get xs ((ByteArray.mk (Array.mk [(115 : UInt8), (47 : UInt8)])) ++ s))))) = true) → ((((List.length (g.set xs ((ByteArray.mk (Array.mk [(115 : UInt8), (47 : UInt8)])) ++ s) (t.rcd (std.quo ((t.rtok (g.get xs ((ByteArray.mk (Array.mk [(115 : UInt8), (47 : UInt8)])) ++ s))) * (b - a)) b) (t.rrew (g.get xs ((ByteArray.mk (Array.mk [(115 : UInt8), (47 : UInt8)])) ++ s)))))) ≤ 1000000) ∧ (∀ (i18 : Nat), ((i18 < (List.length (g.set xs ((ByteArray.mk (Array.mk [(115 : UInt8), (47 : UInt8)])) ++ s) (t.rcd (std.quo ((t.rtok (g.get xs ((ByteArray.mk (Array.mk [(115 : UInt8), (47 : UInt8)])) ++ s))) * (b - a)) b) (t.rrew (g.get xs ((ByteArray.mk (Array.mk [(115 : UInt8), (47 : UInt8)])) ++ s))))))) → ((std.slen (vP (g.set xs ((ByteArray.mk (Array.mk [(115 : UInt8), (47 : UInt8)])) ++ s) (t.rcd (std.quo ((t.rtok (g.get xs ((ByteArray.mk (Array.mk [(115 : UInt8), (47 : UInt8)])) ++ s))) * (b - a)) b) (t.rrew (g.get xs ((ByteArray.mk (Array.mk [(115 : UInt8), (47 : UInt8)])) ++ s))))) i18)) ≤ 4000000)))) ∧ ((((t.bok (g.set xs ((ByteArray.mk (Array.mk [(115 : UInt8), (47 : UInt8)])) ++ s) (t.rcd (std.quo ((t.rtok (g.get xs ((ByteArray.mk (Array.mk [(115 : UInt8), (47 : UInt8)])) ++ s))) * (b - a)) b) (t.rrew (g.get xs ((ByteArray.mk (Array.mk [(115 : UInt8), (47 : UInt8)])) ++ s)))))) = true) → ([(dsl zP (g.set xs ((ByteArray.mk (Array.mk [(115 : UInt8), (47 : UInt8)])) ++ s) (t.rcd (std.quo ((t.rtok (g.get xs ((ByteArray.mk (Array.mk [(115 : UInt8), (47 : UInt8)])) ++ s))) * (b - a)) b) (t.rrew (g.get xs ((ByteArray.mk (Array.mk [(115 : UInt8), (47 : UInt8)])) ++ s)))))), (Value.int IntKind.i64 (0 : Int))] = [(dsl zP (t.stk (3 : Int) xs s a b)), (Value.int IntKind.i64 (t.ster (3 : Int) xs s a b))])) ∧ (((t.bok (g.set xs ((ByteArray.mk (Array.mk [(115 : UInt8), (47 : UInt8)])) ++ s) (t.rcd (std.quo ((t.rtok (g.get xs ((ByteArray.mk (Array.mk [(115 : UInt8), (47 : UInt8)])) ++ s))) * (b - a)) b) (t.rrew (g.get xs ((ByteArray.mk (Array.mk [(115 : UInt8), (47 : UInt8)])) ++ s)))))) = false) → ([(dsl zP xs), (Value.int IntKind.i64 (11 : Int))] = [(dsl zP (t.stk (3 : Int) xs s a b)), (Value.int IntKind.i64 (t.ster (3 : Int) xs s a b))]))))) ∧ (((g.setok xs ((ByteArray.mk (Array.mk [(115 : UInt8), (47 : UInt8)])) ++ s) (t.rcd (std.quo ((t.rtok (g.get xs ((ByteArray.mk (Array.mk [(115 : UInt8), (47 : UInt8)])) ++ s))) * (b - a)) b) (t.rrew (g.get xs ((ByteArray.mk (Array.mk [(115 : UInt8), (47 : UInt8)])) ++ s))))) = false) → ([(dsl zP xs), (Value.int IntKind.i64 (7 : Int))] = [(dsl zP (t.stk (3 : Int) xs s a b)), (Value.int IntKind.i64 (t.ster (3 : Int) xs s a b))]))))))))))))))) ∧ (((t.rok (g.get xs ((ByteArray.mk (Array.mk [(115 : UInt8), (47 : UInt8)])) ++ s))) = false) → ([(dsl zP xs), (Value.int IntKind.i64 (1 : Int))] = [(dsl zP (t.stk (3 : Int) xs s a b)), (Value.int IntKind.i64 (t.ster (3 : Int) xs s a b))]))))) ∧ (((g.fd xs ((ByteArray.mk (Array.mk [(115 : UInt8), (47 : UInt8)])) ++ s)) = false) → (((std.slen (g.get xs ((ByteArray.mk (Array.mk [(115 : UInt8), (47 : UInt8)])) ++ s))) ≤ 4000000) ∧ ((((t.rok (g.get xs ((ByteArray.mk (Array.mk [(115 : UInt8), (47 : UInt8)])) ++ s))) = true) → ([(dsl zP xs), (Value.int IntKind.i64 (3 : Int))] = [(dsl zP (t.stk (3 : Int) xs s a b)), (Value.int IntKind.i64 (t.ster (3 : Int) xs s a b))])) ∧ (((t.rok (g.get xs ((ByteArray.mk (Array.mk [(115 : UInt8), (47 : UInt8)])) ++ s))) = false) → ([(dsl zP xs), (Value.int IntKind.i64 (3 : Int))] = [(dsl zP (t.stk (3 : Int) xs s a b)), (Value.int IntKind.i64 (t.ster (3 : Int) xs s a b))])))))))) ∧ (((decide (a ≤ (1073741824 : Int))) = false) → ([(dsl zP xs), (Value.int IntKind.i64 (1 : Int))] = [(dsl zP (t.stk (3 : Int) xs s a b)), (Value.int IntKind.i64 (t.ster (3 : Int) xs s a b))])))) ∧ (((decide ((0 : Int) ≤ a)) = false) → ([(dsl zP xs), (Value.int IntKind.i64 (1 : Int))] = [(dsl zP (t.stk (3 : Int) xs s a b)), (Value.int IntKind.i64 (t.ster (3 : Int) xs s a b))])))))))) := by kernel_rfl
set_option maxRecDepth 100000 in
theorem rstk_vc (g : KvF) (t : StF) (xs : List Value) (k : Int) (s : ByteArray) (a b : Int) : runP std (rstkCon std g t) 60 noL (rstkP std t) 17 Try.f17 (xs, k, s, a, b, ()) =
  ((((std.slen (ByteArray.mk (Array.mk [(115 : UInt8), (47 : UInt8)]))) + (std.slen s)) ≤ 9223372036854775807) ∧ ((((decide (((std.slen s) : Int) < (1 : Int))) = true) → ([(dsl zP xs), (Value.int IntKind.i64 (1 : Int))] = [(dsl zP (t.rstk k xs s a b)), (Value.int IntKind.i64 (t.rster k xs s a b))])) ∧ (((decide (((std.slen s) : Int) < (1 : Int))) = false) → ((((decide ((16 : Int) < ((std.slen ((ByteArray.mk (Array.mk [(115 : UInt8), (47 : UInt8)])) ++ s)) : Int))) = true) → ([(dsl zP xs), (Value.int IntKind.i64 (1 : Int))] = [(dsl zP (t.rstk k xs s a b)), (Value.int IntKind.i64 (t.rster k xs s a b))])) ∧ (((decide ((16 : Int) < ((std.slen ((ByteArray.mk (Array.mk [(115 : UInt8), (47 : UInt8)])) ++ s)) : Int))) = false) → ((((decide (a < (0 : Int))) = true) → ([(dsl zP xs), (Value.int IntKind.i64 (1 : Int))] = [(dsl zP (t.rstk k xs s a b)), (Value.int IntKind.i64 (t.rster k xs s a b))])) ∧ (((decide (a < (0 : Int))) = false) → ((((decide ((1073741824 : Int) < a)) = true) → ([(dsl zP xs), (Value.int IntKind.i64 (1 : Int))] = [(dsl zP (t.rstk k xs s a b)), (Value.int IntKind.i64 (t.rster k xs s a b))])) ∧ (((decide ((1073741824 : Int) < a)) = false) → ((((decide (k < (1 : Int))) = true) → ([(dsl zP xs), (Value.int IntKind.i64 (1 : Int))] = [(dsl zP (t.rstk k xs s a b)), (Value.int IntKind.i64 (t.rster k xs s a b))])) ∧ (((decide (k < (1 : Int))) = false) → ((((decide ((3 : Int) < k)) = true) → ([(dsl zP xs), (Value.int IntKind.i64 (1 : Int))] = [(dsl zP (t.rstk k xs s a b)), (Value.int IntKind.i64 (t.rster k xs s a b))])) ∧ (((decide ((3 : Int) < k)) = false) → (((List.length xs) ≤ 1000000) ∧ ((((decide ((g.rfirst xs ((ByteArray.mk (Array.mk [(115 : UInt8), (47 : UInt8)])) ++ s)) < ((List.length xs) : Int))) = true) → ((((0 : Int) ≤ (g.rfirst xs ((ByteArray.mk (Array.mk [(115 : UInt8), (47 : UInt8)])) ++ s))) ∧ ((g.rfirst xs ((ByteArray.mk (Array.mk [(115 : UInt8), (47 : UInt8)])) ++ s)) < ((List.length xs) : Int))) ∧ ((((std.seq (kP xs (Int.toNat (g.rfirst xs ((ByteArray.mk (Array.mk [(115 : UInt8), (47 : UInt8)])) ++ s)))) ((ByteArray.mk (Array.mk [(115 : UInt8), (47 : UInt8)])) ++ s)) = true) → ((((0 : Int) ≤ (g.rfirst xs ((ByteArray.mk (Array.mk [(115 : UInt8), (47 : UInt8)])) ++ s))) ∧ ((g.rfirst xs ((ByteArray.mk (Array.mk [(115 : UInt8), (47 : UInt8)])) ++ s)) < ((List.length xs) : Int))) ∧ (((std.slen (vP xs (Int.toNat (g.rfirst xs ((ByteArray.mk (Array.mk [(115 : UInt8), (47 : UInt8)])) ++ s))))) ≤ 4000000) ∧ ((((t.qok (vP xs (Int.toNat (g.rfirst xs ((ByteArray.mk (Array.mk [(115 : UInt8), (47 : UInt8)])) ++ s))))) = true) → ((((k == (1 : Int)) = true) → ((((-9223372036854775808 : Int) ≤ ((t.qtok (vP xs (Int.toNat (g.rfirst xs ((ByteArray.mk (Array.mk [(115 : UInt8), (47 : UInt8)])) ++ s))))) + a)) ∧ (((t.qtok (vP xs (Int.toNat (g.rfirst xs ((ByteArray.mk (Array.mk [(115 : UInt8), (47 : UInt8)])) ++ s))))) + a) ≤ (9223372036854775807 : Int))) ∧ (((((-9223372036854775808 : Int) ≤ ((t.qtok (vP xs (Int.toNat (g.rfirst xs ((ByteArray.mk (Array.mk [(115 : UInt8), (47 : UInt8)])) ++ s))))) + a)) ∧ (((t.qtok (vP xs (Int.toNat (g.rfirst xs ((ByteArray.mk (Array.mk [(115 : UInt8), (47 : UInt8)])) ++ s))))) + a) ≤ (9223372036854775807 : Int))) ∧ (((-9223372036854775808 : Int) ≤ (t.qrew (vP xs (Int.toNat (g.rfirst xs ((ByteArray.mk (Array.mk [(115 : UInt8), (47 : UInt8)])) ++ s)))))) ∧ ((t.qrew (vP xs (Int.toNat (g.rfirst xs ((ByteArray.mk (Array.mk [(115 : UInt8), (47 : UInt8)])) ++ s))))) ≤ (9223372036854775807 : Int)))) ∧ (((List.length xs) ≤ 1000000) ∧ ((((decide ((30 : Int) < ((List.length (g.rset xs ((ByteArray.mk (Array.mk [(115 : UInt8), (47 : UInt8)])) ++ s) (t.rrcd ((t.qtok (vP xs (Int.toNat (g.rfirst xs ((ByteArray.mk (Array.mk [(115 : UInt8), (47 : UInt8)])) ++ s))))) + a) (t.qrew (vP xs (Int.toNat (g.rfirst xs ((ByteArray.mk (Array.mk [(115 : UInt8), (47 : UInt8)])) ++ s)))))))) : Int))) = true) → ([(dsl zP xs), (Value.int IntKind.i64 (7 : Int))] = [(dsl zP (t.rstk k xs s a b)), (Value.int IntKind.i64 (t.rster k xs s a b))])) ∧ (((decide ((30 : Int) < ((List.length (g.rset xs ((ByteArray.mk (Array.mk [(115 : UInt8), (47 : UInt8)])) ++ s) (t.rrcd ((t.qtok (vP xs (Int.toNat (g.rfirst xs ((ByteArray.mk (Array.mk [(115 : UInt8), (47 : UInt8)])) ++ s))))) + a) (t.qrew (vP xs (Int.toNat (g.rfirst xs ((ByteArray.mk (Array.mk [(115 : UInt8), (47 : UInt8)])) ++ s)))))))) : Int))) = false) → ((((List.length (g.rset xs ((ByteArray.mk (Array.mk [(115 : UInt8), (47 : UInt8)])) ++ s) (t.rrcd ((t.qtok (vP xs (Int.toNat (g.rfirst xs ((ByteArray.mk (Array.mk [(115 : UInt8), (47 : UInt8)])) ++ s))))) + a) (t.qrew (vP xs (Int.toNat (g.rfirst xs ((ByteArray.mk (Array.mk [(115 : UInt8), (47 : UInt8)])) ++ s)))))))) ≤ 1000000) ∧ (∀ (i20 : Nat), ((i20 < (List.length (g.rset xs ((ByteArray.mk (Array.mk [(115 : UInt8), (47 : UInt8)])) ++ s) (t.rrcd ((t.qtok (vP xs (Int.toNat (g.rfirst xs ((ByteArray.mk (Array.mk [(115 : UInt8), (47 : UInt8)])) ++ s))))) + a) (t.qrew (vP xs (Int.toNat (g.rfirst xs ((ByteArray.mk (Array.mk [(115 : UInt8), (47 : UInt8)])) ++ s))))))))) → ((std.slen (vP (g.rset xs ((ByteArray.mk (Array.mk [(115 : UInt8), (47 : UInt8)])) ++ s) (t.rrcd ((t.qtok (vP xs (Int.toNat (g.rfirst xs ((ByteArray.mk (Array.mk [(115 : UInt8), (47 : UInt8)])) ++ s))))) + a) (t.qrew (vP xs (Int.toNat (g.rfirst xs ((ByteArray.mk (Array.mk [(115 : UInt8), (47 : UInt8)])) ++ s))))))) i20)) ≤ 4000000)))) ∧ ((((t.rbok (g.rset xs ((ByteArray.mk (Array.mk [(115 : UInt8), (47 : UInt8)])) ++ s) (t.rrcd ((t.qtok (vP xs (Int.toNat (g.rfirst xs ((ByteArray.mk (Array.mk [(115 : UInt8), (47 : UInt8)])) ++ s))))) + a) (t.qrew (vP xs (Int.toNat (g.rfirst xs ((ByteArray.mk (Array.mk [(115 : UInt8), (47 : UInt8)])) ++ s)))))))) = true) → ([(dsl zP (g.rset xs ((ByteArray.mk (Array.mk [(115 : UInt8), (47 : UInt8)])) ++ s) (t.rrcd ((t.qtok (vP xs (Int.toNat (g.rfirst xs ((ByteArray.mk (Array.mk [(115 : UInt8), (47 : UInt8)])) ++ s))))) + a) (t.qrew (vP xs (Int.toNat (g.rfirst xs ((ByteArray.mk (Array.mk [(115 : UInt8), (47 : UInt8)])) ++ s)))))))), (Value.int IntKind.i64 (0 : Int))] = [(dsl zP (t.rstk k xs s a b)), (Value.int IntKind.i64 (t.rster k xs s a b))])) ∧ (((t.rbok (g.rset xs ((ByteArray.mk (Array.mk [(115 : UInt8), (47 : UInt8)])) ++ s) (t.rrcd ((t.qtok (vP xs (Int.toNat (g.rfirst xs ((ByteArray.mk (Array.mk [(115 : UInt8), (47 : UInt8)])) ++ s))))) + a) (t.qrew (vP xs (Int.toNat (g.rfirst xs ((ByteArray.mk (Array.mk [(115 : UInt8), (47 : UInt8)])) ++ s)))))))) = false) → ([(dsl zP xs), (Value.int IntKind.i64 (11 : Int))] = [(dsl zP (t.rstk k xs s a b)), (Value.int IntKind.i64 (t.rster k xs s a b))])))))))))) ∧ (((k == (1 : Int)) = false) → ((((k == (2 : Int)) = true) → ((((-9223372036854775808 : Int) ≤ ((t.qrew (vP xs (Int.toNat (g.rfirst xs ((ByteArray.mk (Array.mk [(115 : UInt8), (47 : UInt8)])) ++ s))))) + a)) ∧ (((t.qrew (vP xs (Int.toNat (g.rfirst xs ((ByteArray.mk (Array.mk [(115 : UInt8), (47 : UInt8)])) ++ s))))) + a) ≤ (9223372036854775807 : Int))) ∧ (((((-9223372036854775808 : Int) ≤ (t.qtok (vP xs (Int.toNat (g.rfirst xs ((ByteArray.mk (Array.mk [(115 : UInt8), (47 : UInt8)])) ++ s)))))) ∧ ((t.qtok (vP xs (Int.toNat (g.rfirst xs ((ByteArray.mk (Array.mk [(115 : UInt8), (47 : UInt8)])) ++ s))))) ≤ (9223372036854775807 : Int))) ∧ (((-9223372036854775808 : Int) ≤ ((t.qrew (vP xs (Int.toNat (g.rfirst xs ((ByteArray.mk (Array.mk [(115 : UInt8), (47 : UInt8)])) ++ s))))) + a)) ∧ (((t.qrew (vP xs (Int.toNat (g.rfirst xs ((ByteArray.mk (Array.mk [(115 : UInt8), (47 : UInt8)])) ++ s))))) + a) ≤ (9223372036854775807 : Int)))) ∧ (((List.length xs) ≤ 1000000) ∧ ((((decide ((30 : Int) < ((List.length (g.rset xs ((ByteArray.mk (Array.mk [(115 : UInt8), (47 : UInt8)])) ++ s) (t.rrcd (t.qtok (vP xs (Int.toNat (g.rfirst xs ((ByteArray.mk (Array.mk [(115 : UInt8), (47 : UInt8)])) ++ s))))) ((t.qrew (vP xs (Int.toNat (g.rfirst xs ((ByteArray.mk (Array.mk [(115 : UInt8), (47 : UInt8)])) ++ s))))) + a)))) : Int))) = true) → ([(dsl zP xs), (Value.int IntKind.i64 (7 : Int))] = [(dsl zP (t.rstk k xs s a b)), (Value.int IntKind.i64 (t.rster k xs s a b))])) ∧ (((decide ((30 : Int) < ((List.length (g.rset xs ((ByteArray.mk (Array.mk [(115 : UInt8), (47 : UInt8)])) ++ s) (t.rrcd (t.qtok (vP xs (Int.toNat (g.rfirst xs ((ByteArray.mk (Array.mk [(115 : UInt8), (47 : UInt8)])) ++ s))))) ((t.qrew (vP xs (Int.toNat (g.rfirst xs ((ByteArray.mk (Array.mk [(115 : UInt8), (47 : UInt8)])) ++ s))))) + a)))) : Int))) = false) → ((((List.length (g.rset xs ((ByteArray.mk (Array.mk [(115 : UInt8), (47 : UInt8)])) ++ s) (t.rrcd (t.qtok (vP xs (Int.toNat (g.rfirst xs ((ByteArray.mk (Array.mk [(115 : UInt8), (47 : UInt8)])) ++ s))))) ((t.qrew (vP xs (Int.toNat (g.rfirst xs ((ByteArray.mk (Array.mk [(115 : UInt8), (47 : UInt8)])) ++ s))))) + a)))) ≤ 1000000) ∧ (∀ (i21 : Nat), ((i21 < (List.length (g.rset xs ((ByteArray.mk (Array.mk [(115 : UInt8), (47 : UInt8)])) ++ s) (t.rrcd (t.qtok (vP xs (Int.toNat (g.rfirst xs ((ByteArray.mk (Array.mk [(115 : UInt8), (47 : UInt8)])) ++ s))))) ((t.qrew (vP xs (Int.toNat (g.rfirst xs ((ByteArray.mk (Array.mk [(115 : UInt8), (47 : UInt8)])) ++ s))))) + a))))) → ((std.slen (vP (g.rset xs ((ByteArray.mk (Array.mk [(115 : UInt8), (47 : UInt8)])) ++ s) (t.rrcd (t.qtok (vP xs (Int.toNat (g.rfirst xs ((ByteArray.mk (Array.mk [(115 : UInt8), (47 : UInt8)])) ++ s))))) ((t.qrew (vP xs (Int.toNat (g.rfirst xs ((ByteArray.mk (Array.mk [(115 : UInt8), (47 : UInt8)])) ++ s))))) + a))) i21)) ≤ 4000000)))) ∧ ((((t.rbok (g.rset xs ((ByteArray.mk (Array.mk [(115 : UInt8), (47 : UInt8)])) ++ s) (t.rrcd (t.qtok (vP xs (Int.toNat (g.rfirst xs ((ByteArray.mk (Array.mk [(115 : UInt8), (47 : UInt8)])) ++ s))))) ((t.qrew (vP xs (Int.toNat (g.rfirst xs ((ByteArray.mk (Array.mk [(115 : UInt8), (47 : UInt8)])) ++ s))))) + a)))) = true) → ([(dsl zP (g.rset xs ((ByteArray.mk (Array.mk [(115 : UInt8), (47 : UInt8)])) ++ s) (t.rrcd (t.qtok (vP xs (Int.toNat (g.rfirst xs ((ByteArray.mk (Array.mk [(115 : UInt8), (47 : UInt8)])) ++ s))))) ((t.qrew (vP xs (Int.toNat (g.rfirst xs ((ByteArray.mk (Array.mk [(115 : UInt8), (47 : UInt8)])) ++ s))))) + a)))), (Value.int IntKind.i64 (0 : Int))] = [(dsl zP (t.rstk k xs s a b)), (Value.int IntKind.i64 (t.rster k xs s a b))])) ∧ (((t.rbok (g.rset xs ((ByteArray.mk (Array.mk [(115 : UInt8), (47 : UInt8)])) ++ s) (t.rrcd (t.qtok (vP xs (Int.toNat (g.rfirst xs ((ByteArray.mk (Array.mk [(115 : UInt8), (47 : UInt8)])) ++ s))))) ((t.qrew (vP xs (Int.toNat (g.rfirst xs ((ByteArray.mk (Array.mk [(115 : UInt8), (47 : UInt8)])) ++ s))))) + a)))) = false) → ([(dsl zP xs), (Value.int IntKind.i64 (11 : Int))] = [(dsl zP (t.rstk k xs s a b)), (Value.int IntKind.i64 (t.rster k xs s a b))])))))))))) ∧ (((k == (2 : Int)) = false) → ((((k == (3 : Int)) = true) → ((((decide (b < (1 : Int))) = true) → ([(dsl zP xs), (Value.int IntKind.i64 (1 : Int))] = [(dsl zP (t.rstk k xs s a b)), (Value.int IntKind.i64 (t.rster k xs s a b))])) ∧ (((decide (b < (1 : Int))) = false) → ((((decide ((1048576 : Int) < b)) = true) → ([(dsl zP xs), (Value.int IntKind.i64 (1 : Int))] = [(dsl zP (t.rstk k xs s a b)), (Value.int IntKind.i64 (t.rster k xs s a b))])) ∧ (((decide ((1048576 : Int) < b)) = false) → ((((decide (b < a)) = true) → ([(dsl zP xs), (Value.int IntKind.i64 (1 : Int))] = [(dsl zP (t.rstk k xs s a b)), (Value.int IntKind.i64 (t.rster k xs s a b))])) ∧ (((decide (b < a)) = false) → ((((-9223372036854775808 : Int) ≤ (b - a)) ∧ ((b - a) ≤ (9223372036854775807 : Int))) ∧ ((((-9223372036854775808 : Int) ≤ ((t.qtok (vP xs (Int.toNat (g.rfirst xs ((ByteArray.mk (Array.mk [(115 : UInt8), (47 : UInt8)])) ++ s))))) * (b - a))) ∧ (((t.qtok (vP xs (Int.toNat (g.rfirst xs ((ByteArray.mk (Array.mk [(115 : UInt8), (47 : UInt8)])) ++ s))))) * (b - a)) ≤ (9223372036854775807 : Int))) ∧ ((((0 : Int) < b) ∧ (((-9223372036854775808 : Int) ≤ ((t.qtok (vP xs (Int.toNat (g.rfirst xs ((ByteArray.mk (Array.mk [(115 : UInt8), (47 : UInt8)])) ++ s))))) * (b - a))) ∧ (((t.qtok (vP xs (Int.toNat (g.rfirst xs ((ByteArray.mk (Array.mk [(115 : UInt8), (47 : UInt8)])) ++ s))))) * (b - a)) ≤ (9223372036854775807 : Int)))) ∧ (((((-9223372036854775808 : Int) ≤ (std.quo ((t.qtok (vP xs (Int.toNat (g.rfirst xs ((ByteArray.mk (Array.mk [(115 : UInt8), (47 : UInt8)])) ++ s))))) * (b - a)) b)) ∧ ((std.quo ((t.qtok (vP xs (Int.toNat (g.rfirst xs ((ByteArray.mk (Array.mk [(115 : UInt8), (47 : UInt8)])) ++ s))))) * (b - a)) b) ≤ (9223372036854775807 : Int))) ∧ (((-9223372036854775808 : Int) ≤ (t.qrew (vP xs (Int.toNat (g.rfirst xs ((ByteArray.mk (Array.mk [(115 : UInt8), (47 : UInt8)])) ++ s)))))) ∧ ((t.qrew (vP xs (Int.toNat (g.rfirst xs ((ByteArray.mk (Array.mk [(115 : UInt8), (47 : UInt8)])) ++ s))))) ≤ (9223372036854775807 : Int)))) ∧ (((List.length xs) ≤ 1000000) ∧ ((((decide ((30 : Int) < (((List.length (g.rset xs ((ByteArray.mk (Array.mk [(115 : UInt8), (47 : UInt8)])) ++ s) (t.rrcd (std.quo ((t.qtok (vP xs (Int.toNat (g.rfirst xs ((ByteArray.mk (Array.mk [(115 : UInt8), (47 : UInt8)])) ++ s))))) * (b - a)) b) (t.qrew (vP xs (Int.toNat (g.rfirst xs ((ByteArray.mk (Array.mk [(115 : UInt8), (47 : UInt8)])) ++ s)))))))) : Nat) : Int))) = true) → ([(dsl zP xs), (Value.int IntKind.i64 (7 : Int))] = [(dsl zP (t.rstk k xs s a b)), (Value.int IntKind.i64 (t.rster k xs s a b))])) ∧ (((decide ((30 : Int) < (((List.length (g.rset xs ((ByteArray.mk (Array.mk [(115 : UInt8), (47 : UInt8)])) ++ s) (t.rrcd (std.quo ((t.qtok (vP xs (Int.toNat (g.rfirst xs ((ByteArray.mk (Array.mk [(115 : UInt8), (47 : UInt8)])) ++ s))))) * (b - a)) b) (t.qrew (vP xs (Int.toNat (g.rfirst xs ((ByteArray.mk (Array.mk [(115 : UInt8), (47 : UInt8)])) ++ s)))))))) : Nat) : Int))) = false) → ((((List.length (g.rset xs ((ByteArray.mk (Array.mk [(115 : UInt8), (47 : UInt8)])) ++ s) (t.rrcd (std.quo ((t.qtok (vP xs (Int.toNat (g.rfirst xs ((ByteArray.mk (Array.mk [(115 : UInt8), (47 : UInt8)])) ++ s))))) * (b - a)) b) (t.qrew (vP xs (Int.toNat (g.rfirst xs ((ByteArray.mk (Array.mk [(115 : UInt8), (47 : UInt8)])) ++ s)))))))) ≤ 1000000) ∧ (∀ (i25 : Nat), ((i25 < (List.length (g.rset xs ((ByteArray.mk (Array.mk [(115 : UInt8), (47 : UInt8)])) ++ s) (t.rrcd (std.quo ((t.qtok (vP xs (Int.toNat (g.rfirst xs ((ByteArray.mk (Array.mk [(115 : UInt8), (47 : UInt8)])) ++ s))))) * (b - a)) b) (t.qrew (vP xs (Int.toNat (g.rfirst xs ((ByteArray.mk (Array.mk [(115 : UInt8), (47 : UInt8)])) ++ s))))))))) → ((std.slen (vP (g.rset xs ((ByteArray.mk (Array.mk [(115 : UInt8), (47 : UInt8)])) ++ s) (t.rrcd (std.quo ((t.qtok (vP xs (Int.toNat (g.rfirst xs ((ByteArray.mk (Array.mk [(115 : UInt8), (47 : UInt8)])) ++ s))))) * (b - a)) b) (t.qrew (vP xs (Int.toNat (g.rfirst xs ((ByteArray.mk (Array.mk [(115 : UInt8), (47 : UInt8)])) ++ s))))))) i25)) ≤ 4000000)))) ∧ ((((t.rbok (g.rset xs ((ByteArray.mk (Array.mk [(115 : UInt8), (47 : UInt8)])) ++ s) (t.rrcd (std.quo ((t.qtok (vP xs (Int.toNat (g.rfirst xs ((ByteArray.mk (Array.mk [(115 : UInt8), (47 : UInt8)])) ++ s))))) * (b - a)) b) (t.qrew (vP xs (Int.toNat (g.rfirst xs ((ByteArray.mk (Array.mk [(115 : UInt8), (47 : UInt8)])) ++ s)))))))) = true) → ([(dsl zP (g.rset xs ((ByteArray.mk (Array.mk [(115 : UInt8), (47 : UInt8)])) ++ s) (t.rrcd (std.quo ((t.qtok (vP xs (Int.toNat (g.rfirst xs ((ByteArray.mk (Array.mk [(115 : UInt8), (47 : UInt8)])) ++ s))))) * (b - a)) b) (t.qrew (vP xs (Int.toNat (g.rfirst xs ((ByteArray.mk (Array.mk [(115 : UInt8), (47 : UInt8)])) ++ s)))))))), (Value.int IntKind.i64 (0 : Int))] = [(dsl zP (t.rstk k xs s a b)), (Value.int IntKind.i64 (t.rster k xs s a b))])) ∧ (((t.rbok (g.rset xs ((ByteArray.mk (Array.mk [(115 : UInt8), (47 : UInt8)])) ++ s) (t.rrcd (std.quo ((t.qtok (vP xs (Int.toNat (g.rfirst xs ((ByteArray.mk (Array.mk [(115 : UInt8), (47 : UInt8)])) ++ s))))) * (b - a)) b) (t.qrew (vP xs (Int.toNat (g.rfirst xs ((ByteArray.mk (Array.mk [(115 : UInt8), (47 : UInt8)])) ++ s)))))))) = false) → ([(dsl zP xs), (Value.int IntKind.i64 (11 : Int))] = [(dsl zP (t.rstk k xs s a b)), (Value.int IntKind.i64 (t.rster k xs s a b))])))))))))))))))))) ∧ (((k == (3 : Int)) = false) → (((((-9223372036854775808 : Int) ≤ (t.qtok (vP xs (Int.toNat (g.rfirst xs ((ByteArray.mk (Array.mk [(115 : UInt8), (47 : UInt8)])) ++ s)))))) ∧ ((t.qtok (vP xs (Int.toNat (g.rfirst xs ((ByteArray.mk (Array.mk [(115 : UInt8), (47 : UInt8)])) ++ s))))) ≤ (9223372036854775807 : Int))) ∧ (((-9223372036854775808 : Int) ≤ (t.qrew (vP xs (Int.toNat (g.rfirst xs ((ByteArray.mk (Array.mk [(115 : UInt8), (47 : UInt8)])) ++ s)))))) ∧ ((t.qrew (vP xs (Int.toNat (g.rfirst xs ((ByteArray.mk (Array.mk [(115 : UInt8), (47 : UInt8)])) ++ s))))) ≤ (9223372036854775807 : Int)))) ∧ (((List.length xs) ≤ 1000000) ∧ ((((decide ((30 : Int) < ((List.length (g.rset xs ((ByteArray.mk (Array.mk [(115 : UInt8), (47 : UInt8)])) ++ s) (t.rrcd (t.qtok (vP xs (Int.toNat (g.rfirst xs ((ByteArray.mk (Array.mk [(115 : UInt8), (47 : UInt8)])) ++ s))))) (t.qrew (vP xs (Int.toNat (g.rfirst xs ((ByteArray.mk (Array.mk [(115 : UInt8), (47 : UInt8)])) ++ s)))))))) : Int))) = true) → ([(dsl zP xs), (Value.int IntKind.i64 (7 : Int))] = [(dsl zP (t.rstk k xs s a b)), (Value.int IntKind.i64 (t.rster k xs s a b))])) ∧ (((decide ((30 : Int) < ((List.length (g.rset xs ((ByteArray.mk (Array.mk [(115 : UInt8), (47 : UInt8)])) ++ s) (t.rrcd (t.qtok (vP xs (Int.toNat (g.rfirst xs ((ByteArray.mk (Array.mk [(115 : UInt8), (47 : UInt8)])) ++ s))))) (t.qrew (vP xs (Int.toNat (g.rfirst xs ((ByteArray.mk (Array.mk [(115 : UInt8), (47 : UInt8)])) ++ s)))))))) : Int))) = false) → ((((List.length (g.rset xs ((ByteArray.mk (Array.mk [(115 : UInt8), (47 : UInt8)])) ++ s) (t.rrcd (t.qtok (vP xs (Int.toNat (g.rfirst xs ((ByteArray.mk (Array.mk [(115 : UInt8), (47 : UInt8)])) ++ s))))) (t.qrew (vP xs (Int.toNat (g.rfirst xs ((ByteArray.mk (Array.mk [(115 : UInt8), (47 : UInt8)])) ++ s)))))))) ≤ 1000000) ∧ (∀ (i22 : Nat), ((i22 < (List.length (g.rset xs ((ByteArray.mk (Array.mk [(115 : UInt8), (47 : UInt8)])) ++ s) (t.rrcd (t.qtok (vP xs (Int.toNat (g.rfirst xs ((ByteArray.mk (Array.mk [(115 : UInt8), (47 : UInt8)])) ++ s))))) (t.qrew (vP xs (Int.toNat (g.rfirst xs ((ByteArray.mk (Array.mk [(115 : UInt8), (47 : UInt8)])) ++ s))))))))) → ((std.slen (vP (g.rset xs ((ByteArray.mk (Array.mk [(115 : UInt8), (47 : UInt8)])) ++ s) (t.rrcd (t.qtok (vP xs (Int.toNat (g.rfirst xs ((ByteArray.mk (Array.mk [(115 : UInt8), (47 : UInt8)])) ++ s))))) (t.qrew (vP xs (Int.toNat (g.rfirst xs ((ByteArray.mk (Array.mk [(115 : UInt8), (47 : UInt8)])) ++ s))))))) i22)) ≤ 4000000)))) ∧ ((((t.rbok (g.rset xs ((ByteArray.mk (Array.mk [(115 : UInt8), (47 : UInt8)])) ++ s) (t.rrcd (t.qtok (vP xs (Int.toNat (g.rfirst xs ((ByteArray.mk (Array.mk [(115 : UInt8), (47 : UInt8)])) ++ s))))) (t.qrew (vP xs (Int.toNat (g.rfirst xs ((ByteArray.mk (Array.mk [(115 : UInt8), (47 : UInt8)])) ++ s)))))))) = true) → ([(dsl zP (g.rset xs ((ByteArray.mk (Array.mk [(115 : UInt8), (47 : UInt8)])) ++ s) (t.rrcd (t.qtok (vP xs (Int.toNat (g.rfirst xs ((ByteArray.mk (Array.mk [(115 : UInt8), (47 : UInt8)])) ++ s))))) (t.qrew (vP xs (Int.toNat (g.rfirst xs ((ByteArray.mk (Array.mk [(115 : UInt8), (47 : UInt8)])) ++ s)))))))), (Value.int IntKind.i64 (0 : Int))] = [(dsl zP (t.rstk k xs s a b)), (Value.int IntKind.i64 (t.rster k xs s a b))])) ∧ (((t.rbok (g.rset xs ((ByteArray.mk (Array.mk [(115 : UInt8), (47 : UInt8)])) ++ s) (t.rrcd (t.qtok (vP xs (Int.toNat (g.rfirst xs ((ByteArray.mk (Array.mk [(115 : UInt8), (47 : UInt8)])) ++ s))))) (t.qrew (vP xs (Int.toNat (g.rfirst xs ((ByteArray.mk (Array.mk [(115 : UInt8), (47 : UInt8)])) ++ s)))))))) = false) → ([(dsl zP xs), (Value.int IntKind.i64 (11 : Int))] = [(dsl zP (t.rstk k xs s a b)), (Value.int IntKind.i64 (t.rster k xs s a b))]))))))))))))))) ∧ (((t.qok (vP xs (Int.toNat (g.rfirst xs ((ByteArray.mk (Array.mk [(115 : UInt8), (47 : UInt8)])) ++ s))))) = false) → ([(dsl zP xs), (Value.int IntKind.i64 (1 : Int))] = [(dsl zP (t.rstk k xs s a b)), (Value.int IntKind.i64 (t.rster k xs s a b))])))))) ∧ (((std.seq (kP xs (Int.toNat (g.rfirst xs ((ByteArray.mk (Array.mk [(115 : UInt8), (47 : UInt8)])) ++ s)))) ((ByteArray.mk (Array.mk [(115 : UInt8), (47 : UInt8)])) ++ s)) = false) → ((((k == (1 : Int)) = true) → ((((-9223372036854775808 : Int) ≤ ((0 : Int) + a)) ∧ (((0 : Int) + a) ≤ (9223372036854775807 : Int))) ∧ (((((-9223372036854775808 : Int) ≤ ((0 : Int) + a)) ∧ (((0 : Int) + a) ≤ (9223372036854775807 : Int))) ∧ (((-9223372036854775808 : Int) ≤ (0 : Int)) ∧ ((0 : Int) ≤ (9223372036854775807 : Int)))) ∧ (((List.length xs) ≤ 1000000) ∧ ((((decide ((30 : Int) < ((List.length (g.rset xs ((ByteArray.mk (Array.mk [(115 : UInt8), (47 : UInt8)])) ++ s) (t.rrcd ((0 : Int) + a) (0 : Int)))) : Int))) = true) → ([(dsl zP xs), (Value.int IntKind.i64 (7 : Int))] = [(dsl zP (t.rstk k xs s a b)), (Value.int IntKind.i64 (t.rster k xs s a b))])) ∧ (((decide ((30 : Int) < ((List.length (g.rset xs ((ByteArray.mk (Array.mk [(115 : UInt8), (47 : UInt8)])) ++ s) (t.rrcd ((0 : Int) + a) (0 : Int)))) : Int))) = false) → ((((List.length (g.rset xs ((ByteArray.mk (Array.mk [(115 : UInt8), (47 : UInt8)])) ++ s) (t.rrcd ((0 : Int) + a) (0 : Int)))) ≤ 1000000) ∧ (∀ (i19 : Nat), ((i19 < (List.length (g.rset xs ((ByteArray.mk (Array.mk [(115 : UInt8), (47 : UInt8)])) ++ s) (t.rrcd ((0 : Int) + a) (0 : Int))))) → ((std.slen (vP (g.rset xs ((ByteArray.mk (Array.mk [(115 : UInt8), (47 : UInt8)])) ++ s) (t.rrcd ((0 : Int) + a) (0 : Int))) i19)) ≤ 4000000)))) ∧ ((((t.rbok (g.rset xs ((ByteArray.mk (Array.mk [(115 : UInt8), (47 : UInt8)])) ++ s) (t.rrcd ((0 : Int) + a) (0 : Int)))) = true) → ([(dsl zP (g.rset xs ((ByteArray.mk (Array.mk [(115 : UInt8), (47 : UInt8)])) ++ s) (t.rrcd ((0 : Int) + a) (0 : Int)))), (Value.int IntKind.i64 (0 : Int))] = [(dsl zP (t.rstk k xs s a b)), (Value.int IntKind.i64 (t.rster k xs s a b))])) ∧ (((t.rbok (g.rset xs ((ByteArray.mk (Array.mk [(115 : UInt8), (47 : UInt8)])) ++ s) (t.rrcd ((0 : Int) + a) (0 : Int)))) = false) → ([(dsl zP xs), (Value.int IntKind.i64 (11 : Int))] = [(dsl zP (t.rstk k xs s a b)), (Value.int IntKind.i64 (t.rster k xs s a b))])))))))))) ∧ (((k == (1 : Int)) = false) → ((((k == (2 : Int)) = true) → ([(dsl zP xs), (Value.int IntKind.i64 (3 : Int))] = [(dsl zP (t.rstk k xs s a b)), (Value.int IntKind.i64 (t.rster k xs s a b))])) ∧ (((k == (2 : Int)) = false) → ((((k == (3 : Int)) = true) → ([(dsl zP xs), (Value.int IntKind.i64 (3 : Int))] = [(dsl zP (t.rstk k xs s a b)), (Value.int IntKind.i64 (t.rster k xs s a b))])) ∧ (((k == (3 : Int)) = false) → (((((-9223372036854775808 : Int) ≤ (0 : Int)) ∧ ((0 : Int) ≤ (9223372036854775807 : Int))) ∧ (((-9223372036854775808 : Int) ≤ (0 : Int)) ∧ ((0 : Int) ≤ (9223372036854775807 : Int)))) ∧ (((List.length xs) ≤ 1000000) ∧ ((((decide ((30 : Int) < ((List.length (g.rset xs ((ByteArray.mk (Array.mk [(115 : UInt8), (47 : UInt8)])) ++ s) (t.rrcd (0 : Int) (0 : Int)))) : Int))) = true) → ([(dsl zP xs), (Value.int IntKind.i64 (7 : Int))] = [(dsl zP (t.rstk k xs s a b)), (Value.int IntKind.i64 (t.rster k xs s a b))])) ∧ (((decide ((30 : Int) < ((List.length (g.rset xs ((ByteArray.mk (Array.mk [(115 : UInt8), (47 : UInt8)])) ++ s) (t.rrcd (0 : Int) (0 : Int)))) : Int))) = false) → ((((List.length (g.rset xs ((ByteArray.mk (Array.mk [(115 : UInt8), (47 : UInt8)])) ++ s) (t.rrcd (0 : Int) (0 : Int)))) ≤ 1000000) ∧ (∀ (i21 : Nat), ((i21 < (List.length (g.rset xs ((ByteArray.mk (Array.mk [(115 : UInt8), (47 : UInt8)])) ++ s) (t.rrcd (0 : Int) (0 : Int))))) → ((std.slen (vP (g.rset xs ((ByteArray.mk (Array.mk [(115 : UInt8), (47 : UInt8)])) ++ s) (t.rrcd (0 : Int) (0 : Int))) i21)) ≤ 4000000)))) ∧ ((((t.rbok (g.rset xs ((ByteArray.mk (Array.mk [(115 : UInt8), (47 : UInt8)])) ++ s) (t.rrcd (0 : Int) (0 : Int)))) = true) → ([(dsl zP (g.rset xs ((ByteArray.mk (Array.mk [(115 : UInt8), (47 : UInt8)])) ++ s) (t.rrcd (0 : Int) (0 : Int)))), (Value.int IntKind.i64 (0 : Int))] = [(dsl zP (t.rstk k xs s a b)), (Value.int IntKind.i64 (t.rster k xs s a b))])) ∧ (((t.rbok (g.rset xs ((ByteArray.mk (Array.mk [(115 : UInt8), (47 : UInt8)])) ++ s) (t.rrcd (0 : Int) (0 : Int)))) = false) → ([(dsl zP xs), (Value.int IntKind.i64 (11 : Int))] = [(dsl zP (t.rstk k xs s a b)), (Value.int IntKind.i64 (t.rster k xs s a b))])))))))))))))))))) ∧ (((decide ((g.rfirst xs ((ByteArray.mk (Array.mk [(115 : UInt8), (47 : UInt8)])) ++ s)) < ((List.length xs) : Int))) = false) → ((((k == (1 : Int)) = true) → ((((-9223372036854775808 : Int) ≤ ((0 : Int) + a)) ∧ (((0 : Int) + a) ≤ (9223372036854775807 : Int))) ∧ (((((-9223372036854775808 : Int) ≤ ((0 : Int) + a)) ∧ (((0 : Int) + a) ≤ (9223372036854775807 : Int))) ∧ (((-9223372036854775808 : Int) ≤ (0 : Int)) ∧ ((0 : Int) ≤ (9223372036854775807 : Int)))) ∧ (((List.length xs) ≤ 1000000) ∧ ((((decide ((30 : Int) < ((List.length (g.rset xs ((ByteArray.mk (Array.mk [(115 : UInt8), (47 : UInt8)])) ++ s) (t.rrcd ((0 : Int) + a) (0 : Int)))) : Int))) = true) → ([(dsl zP xs), (Value.int IntKind.i64 (7 : Int))] = [(dsl zP (t.rstk k xs s a b)), (Value.int IntKind.i64 (t.rster k xs s a b))])) ∧ (((decide ((30 : Int) < ((List.length (g.rset xs ((ByteArray.mk (Array.mk [(115 : UInt8), (47 : UInt8)])) ++ s) (t.rrcd ((0 : Int) + a) (0 : Int)))) : Int))) = false) → ((((List.length (g.rset xs ((ByteArray.mk (Array.mk [(115 : UInt8), (47 : UInt8)])) ++ s) (t.rrcd ((0 : Int) + a) (0 : Int)))) ≤ 1000000) ∧ (∀ (i18 : Nat), ((i18 < (List.length (g.rset xs ((ByteArray.mk (Array.mk [(115 : UInt8), (47 : UInt8)])) ++ s) (t.rrcd ((0 : Int) + a) (0 : Int))))) → ((std.slen (vP (g.rset xs ((ByteArray.mk (Array.mk [(115 : UInt8), (47 : UInt8)])) ++ s) (t.rrcd ((0 : Int) + a) (0 : Int))) i18)) ≤ 4000000)))) ∧ ((((t.rbok (g.rset xs ((ByteArray.mk (Array.mk [(115 : UInt8), (47 : UInt8)])) ++ s) (t.rrcd ((0 : Int) + a) (0 : Int)))) = true) → ([(dsl zP (g.rset xs ((ByteArray.mk (Array.mk [(115 : UInt8), (47 : UInt8)])) ++ s) (t.rrcd ((0 : Int) + a) (0 : Int)))), (Value.int IntKind.i64 (0 : Int))] = [(dsl zP (t.rstk k xs s a b)), (Value.int IntKind.i64 (t.rster k xs s a b))])) ∧ (((t.rbok (g.rset xs ((ByteArray.mk (Array.mk [(115 : UInt8), (47 : UInt8)])) ++ s) (t.rrcd ((0 : Int) + a) (0 : Int)))) = false) → ([(dsl zP xs), (Value.int IntKind.i64 (11 : Int))] = [(dsl zP (t.rstk k xs s a b)), (Value.int IntKind.i64 (t.rster k xs s a b))])))))))))) ∧ (((k == (1 : Int)) = false) → ((((k == (2 : Int)) = true) → ([(dsl zP xs), (Value.int IntKind.i64 (3 : Int))] = [(dsl zP (t.rstk k xs s a b)), (Value.int IntKind.i64 (t.rster k xs s a b))])) ∧ (((k == (2 : Int)) = false) → ((((k == (3 : Int)) = true) → ([(dsl zP xs), (Value.int IntKind.i64 (3 : Int))] = [(dsl zP (t.rstk k xs s a b)), (Value.int IntKind.i64 (t.rster k xs s a b))])) ∧ (((k == (3 : Int)) = false) → (((((-9223372036854775808 : Int) ≤ (0 : Int)) ∧ ((0 : Int) ≤ (9223372036854775807 : Int))) ∧ (((-9223372036854775808 : Int) ≤ (0 : Int)) ∧ ((0 : Int) ≤ (9223372036854775807 : Int)))) ∧ (((List.length xs) ≤ 1000000) ∧ ((((decide ((30 : Int) < ((List.length (g.rset xs ((ByteArray.mk (Array.mk [(115 : UInt8), (47 : UInt8)])) ++ s) (t.rrcd (0 : Int) (0 : Int)))) : Int))) = true) → ([(dsl zP xs), (Value.int IntKind.i64 (7 : Int))] = [(dsl zP (t.rstk k xs s a b)), (Value.int IntKind.i64 (t.rster k xs s a b))])) ∧ (((decide ((30 : Int) < ((List.length (g.rset xs ((ByteArray.mk (Array.mk [(115 : UInt8), (47 : UInt8)])) ++ s) (t.rrcd (0 : Int) (0 : Int)))) : Int))) = false) → ((((List.length (g.rset xs ((ByteArray.mk (Array.mk [(115 : UInt8), (47 : UInt8)])) ++ s) (t.rrcd (0 : Int) (0 : Int)))) ≤ 1000000) ∧ (∀ (i20 : Nat), ((i20 < (List.length (g.rset xs ((ByteArray.mk (Array.mk [(115 : UInt8), (47 : UInt8)])) ++ s) (t.rrcd (0 : Int) (0 : Int))))) → ((std.slen (vP (g.rset xs ((ByteArray.mk (Array.mk [(115 : UInt8), (47 : UInt8)])) ++ s) (t.rrcd (0 : Int) (0 : Int))) i20)) ≤ 4000000)))) ∧ ((((t.rbok (g.rset xs ((ByteArray.mk (Array.mk [(115 : UInt8), (47 : UInt8)])) ++ s) (t.rrcd (0 : Int) (0 : Int)))) = true) → ([(dsl zP (g.rset xs ((ByteArray.mk (Array.mk [(115 : UInt8), (47 : UInt8)])) ++ s) (t.rrcd (0 : Int) (0 : Int)))), (Value.int IntKind.i64 (0 : Int))] = [(dsl zP (t.rstk k xs s a b)), (Value.int IntKind.i64 (t.rster k xs s a b))])) ∧ (((t.rbok (g.rset xs ((ByteArray.mk (Array.mk [(115 : UInt8), (47 : UInt8)])) ++ s) (t.rrcd (0 : Int) (0 : Int)))) = false) → ([(dsl zP xs), (Value.int IntKind.i64 (11 : Int))] = [(dsl zP (t.rstk k xs s a b)), (Value.int IntKind.i64 (t.rster k xs s a b))])))))))))))))))))))))))))))))) := by kernel_rfl
end Go.Proofs.Ytecdmdglkkeidaa
end
section
namespace Go.Proofs.Ytecdmdglkkeidaa
open Go.Abs Go
set_option maxRecDepth 100000
def tailP (g : KvF) (xs ps : List Value) (I : PlL → Prop) (m : PlL → Nat) (dd : PlL) (PA PB : List Value) : Prop :=
  (((List.length PA) ≤ 1000000) ∧ ((((g.fd PA (g.key (eI xs (Int.toNat (dd.i))))) = true) → (((List.length PB) ≤ 1000000) ∧ ((((decide ((g.rfirst PB (g.key (eI xs (Int.toNat (dd.i))))) < ((List.length PB) : Int))) = true) → ((((0 : Int) ≤ (g.rfirst PB (g.key (eI xs (Int.toNat (dd.i)))))) ∧ ((g.rfirst PB (g.key (eI xs (Int.toNat (dd.i))))) < ((List.length PB) : Int))) ∧ ((((std.seq (kP PB (Int.toNat (g.rfirst PB (g.key (eI xs (Int.toNat (dd.i))))))) (g.key (eI xs (Int.toNat (dd.i))))) = true) → (((List.length PA) ≤ 1000000) ∧ ((((g.same PA PB) = true) → (((List.length PA) ≤ 1000000) ∧ ((((g.right PA) = true) → ((((0 : Int) ≤ (g.rfirst PB (g.key (eI xs (Int.toNat (dd.i)))))) ∧ ((g.rfirst PB (g.key (eI xs (Int.toNat (dd.i))))) < ((List.length PB) : Int))) ∧ ((((!(std.seq (g.get PA (g.key (eI xs (Int.toNat (dd.i))))) (vP PB (Int.toNat (g.rfirst PB (g.key (eI xs (Int.toNat (dd.i))))))))) = true) → ([(Value.bool false)] = [(Value.bool true)])) ∧ (((!(std.seq (g.get PA (g.key (eI xs (Int.toNat (dd.i))))) (vP PB (Int.toNat (g.rfirst PB (g.key (eI xs (Int.toNat (dd.i))))))))) = false) → (((List.length (dd.a)) ≤ 1000000) ∧ ((((g.same (dd.a) (dd.a)) = true) → (((List.length PA) ≤ 1000000) ∧ ((((!((g.bs PA (g.key (eI xs (Int.toNat (dd.i))))) == (g.rfirst PB (g.key (eI xs (Int.toNat (dd.i))))))) = true) → ([(Value.bool false)] = [(Value.bool true)])) ∧ (((!((g.bs PA (g.key (eI xs (Int.toNat (dd.i))))) == (g.rfirst PB (g.key (eI xs (Int.toNat (dd.i))))))) = false) → ((((-9223372036854775808 : Int) ≤ ((dd.i) + (1 : Int))) ∧ (((dd.i) + (1 : Int)) ≤ (9223372036854775807 : Int))) ∧ (∃ (ee : PlL), (([(Filler.dl xs), (Filler.dl ps), (Filler.dl (ee.a)), (Filler.dl (ee.b)), (Filler.val (Value.int IntKind.i64 (ee.i)))] = [(Filler.dl xs), (Filler.dl ps), (Filler.dl PA), (Filler.dl PB), (Filler.val (Value.int IntKind.i64 ((dd.i) + (1 : Int))))]) ∧ ((Nat.le (Nat.succ (m ee)) (m dd)) ∧ (I ee))))))))) ∧ (((g.same (dd.a) (dd.a)) = false) → ([(Value.bool false)] = [(Value.bool true)])))))))) ∧ (((g.right PA) = false) → ([(Value.bool false)] = [(Value.bool true)]))))) ∧ (((g.same PA PB) = false) → ([(Value.bool false)] = [(Value.bool true)]))))) ∧ (((std.seq (kP PB (Int.toNat (g.rfirst PB (g.key (eI xs (Int.toNat (dd.i))))))) (g.key (eI xs (Int.toNat (dd.i))))) = false) → (((List.length PA) ≤ 1000000) ∧ ((((g.same PA PB) = true) → (((List.length PA) ≤ 1000000) ∧ ((((g.right PA) = true) → ([(Value.bool false)] = [(Value.bool true)])) ∧ (((g.right PA) = false) → ([(Value.bool false)] = [(Value.bool true)]))))) ∧ (((g.same PA PB) = false) → ([(Value.bool false)] = [(Value.bool true)])))))))) ∧ (((decide ((g.rfirst PB (g.key (eI xs (Int.toNat (dd.i))))) < ((List.length PB) : Int))) = false) → (((List.length PA) ≤ 1000000) ∧ ((((g.same PA PB) = true) → (((List.length PA) ≤ 1000000) ∧ ((((g.right PA) = true) → ([(Value.bool false)] = [(Value.bool true)])) ∧ (((g.right PA) = false) → ([(Value.bool false)] = [(Value.bool true)]))))) ∧ (((g.same PA PB) = false) → ([(Value.bool false)] = [(Value.bool true)])))))))) ∧ (((g.fd PA (g.key (eI xs (Int.toNat (dd.i))))) = false) → (((List.length PB) ≤ 1000000) ∧ ((((decide ((g.rfirst PB (g.key (eI xs (Int.toNat (dd.i))))) < ((List.length PB) : Int))) = true) → ((((0 : Int) ≤ (g.rfirst PB (g.key (eI xs (Int.toNat (dd.i)))))) ∧ ((g.rfirst PB (g.key (eI xs (Int.toNat (dd.i))))) < ((List.length PB) : Int))) ∧ ((((std.seq (kP PB (Int.toNat (g.rfirst PB (g.key (eI xs (Int.toNat (dd.i))))))) (g.key (eI xs (Int.toNat (dd.i))))) = true) → (((List.length PA) ≤ 1000000) ∧ ((((g.same PA PB) = true) → (((List.length PA) ≤ 1000000) ∧ ((((g.right PA) = true) → ([(Value.bool false)] = [(Value.bool true)])) ∧ (((g.right PA) = false) → ([(Value.bool false)] = [(Value.bool true)]))))) ∧ (((g.same PA PB) = false) → ([(Value.bool false)] = [(Value.bool true)]))))) ∧ (((std.seq (kP PB (Int.toNat (g.rfirst PB (g.key (eI xs (Int.toNat (dd.i))))))) (g.key (eI xs (Int.toNat (dd.i))))) = false) → (((List.length PA) ≤ 1000000) ∧ ((((g.same PA PB) = true) → (((List.length PA) ≤ 1000000) ∧ ((((g.right PA) = true) → ((((!(std.seq (g.get PA (g.key (eI xs (Int.toNat (dd.i))))) (ByteArray.mk (Array.mk [])))) = true) → ([(Value.bool false)] = [(Value.bool true)])) ∧ (((!(std.seq (g.get PA (g.key (eI xs (Int.toNat (dd.i))))) (ByteArray.mk (Array.mk [])))) = false) → (((List.length (dd.a)) ≤ 1000000) ∧ ((((g.same (dd.a) (dd.a)) = true) → (((List.length PA) ≤ 1000000) ∧ ((((!((g.bs PA (g.key (eI xs (Int.toNat (dd.i))))) == (g.rfirst PB (g.key (eI xs (Int.toNat (dd.i))))))) = true) → ([(Value.bool false)] = [(Value.bool true)])) ∧ (((!((g.bs PA (g.key (eI xs (Int.toNat (dd.i))))) == (g.rfirst PB (g.key (eI xs (Int.toNat (dd.i))))))) = false) → ((((-9223372036854775808 : Int) ≤ ((dd.i) + (1 : Int))) ∧ (((dd.i) + (1 : Int)) ≤ (9223372036854775807 : Int))) ∧ (∃ (ee : PlL), (([(Filler.dl xs), (Filler.dl ps), (Filler.dl (ee.a)), (Filler.dl (ee.b)), (Filler.val (Value.int IntKind.i64 (ee.i)))] = [(Filler.dl xs), (Filler.dl ps), (Filler.dl PA), (Filler.dl PB), (Filler.val (Value.int IntKind.i64 ((dd.i) + (1 : Int))))]) ∧ ((Nat.le (Nat.succ (m ee)) (m dd)) ∧ (I ee))))))))) ∧ (((g.same (dd.a) (dd.a)) = false) → ([(Value.bool false)] = [(Value.bool true)]))))))) ∧ (((g.right PA) = false) → ([(Value.bool false)] = [(Value.bool true)]))))) ∧ (((g.same PA PB) = false) → ([(Value.bool false)] = [(Value.bool true)])))))))) ∧ (((decide ((g.rfirst PB (g.key (eI xs (Int.toNat (dd.i))))) < ((List.length PB) : Int))) = false) → (((List.length PA) ≤ 1000000) ∧ ((((g.same PA PB) = true) → (((List.length PA) ≤ 1000000) ∧ ((((g.right PA) = true) → ((((!(std.seq (g.get PA (g.key (eI xs (Int.toNat (dd.i))))) (ByteArray.mk (Array.mk [])))) = true) → ([(Value.bool false)] = [(Value.bool true)])) ∧ (((!(std.seq (g.get PA (g.key (eI xs (Int.toNat (dd.i))))) (ByteArray.mk (Array.mk [])))) = false) → (((List.length (dd.a)) ≤ 1000000) ∧ ((((g.same (dd.a) (dd.a)) = true) → (((List.length PA) ≤ 1000000) ∧ ((((!((g.bs PA (g.key (eI xs (Int.toNat (dd.i))))) == (g.rfirst PB (g.key (eI xs (Int.toNat (dd.i))))))) = true) → ([(Value.bool false)] = [(Value.bool true)])) ∧ (((!((g.bs PA (g.key (eI xs (Int.toNat (dd.i))))) == (g.rfirst PB (g.key (eI xs (Int.toNat (dd.i))))))) = false) → ((((-9223372036854775808 : Int) ≤ ((dd.i) + (1 : Int))) ∧ (((dd.i) + (1 : Int)) ≤ (9223372036854775807 : Int))) ∧ (∃ (ee : PlL), (([(Filler.dl xs), (Filler.dl ps), (Filler.dl (ee.a)), (Filler.dl (ee.b)), (Filler.val (Value.int IntKind.i64 (ee.i)))] = [(Filler.dl xs), (Filler.dl ps), (Filler.dl PA), (Filler.dl PB), (Filler.val (Value.int IntKind.i64 ((dd.i) + (1 : Int))))]) ∧ ((Nat.le (Nat.succ (m ee)) (m dd)) ∧ (I ee))))))))) ∧ (((g.same (dd.a) (dd.a)) = false) → ([(Value.bool false)] = [(Value.bool true)]))))))) ∧ (((g.right PA) = false) → ([(Value.bool false)] = [(Value.bool true)]))))) ∧ (((g.same PA PB) = false) → ([(Value.bool false)] = [(Value.bool true)]))))))))))
def bodyP (g : KvF) (xs ps : List Value) (I : PlL → Prop) (m : PlL → Nat) (dd : PlL) (PA PB : ByteArray) : Prop :=
  ((((List.length (dd.a)) * 32) ≤ 140737488355328) ∧ ((((0 : Int) ≤ (dd.i)) ∧ ((dd.i) < ((List.length xs) : Int))) ∧ (((0 : Int) < (5 : Int)) ∧ (((((std.rem (eI xs (Int.toNat (dd.i))) (5 : Int)) == (4 : Int)) = true) → (((List.length (dd.a)) ≤ 1000000) ∧ (((List.length (dd.b)) ≤ 1000000) ∧ (tailP g xs ps I m dd (g.del (dd.a) (g.key (eI xs (Int.toNat (dd.i))))) (g.rdel (dd.b) (g.key (eI xs (Int.toNat (dd.i))))))))) ∧ ((((std.rem (eI xs (Int.toNat (dd.i))) (5 : Int)) == (4 : Int)) = false) → (((List.length (dd.a)) ≤ 1000000) ∧ ((((g.setok (dd.a) PA PB) = true) → (True ∧ ((((g.rmay PA PB) = true) → (((List.length (dd.b)) ≤ 1000000) ∧ ((((decide ((30 : Int) < ((List.length (g.rset (dd.b) PA PB)) : Int))) = true) → ([(Value.bool false)] = [(Value.bool true)])) ∧ (((decide ((30 : Int) < ((List.length (g.rset (dd.b) PA PB)) : Int))) = false) → (((List.length (dd.b)) ≤ 1000000) ∧ (tailP g xs ps I m dd (g.set (dd.a) PA PB) (g.rset (dd.b) PA PB))))))) ∧ (((g.rmay PA PB) = false) → ([(Value.bool false)] = [(Value.bool true)]))))) ∧ (((g.setok (dd.a) PA PB) = false) → (True ∧ ((((g.rmay PA PB) = true) → (((List.length (dd.b)) ≤ 1000000) ∧ ((((decide ((30 : Int) < ((List.length (g.rset (dd.b) PA PB)) : Int))) = true) → (tailP g xs ps I m dd (g.set (dd.a) PA PB) (dd.b))) ∧ (((decide ((30 : Int) < ((List.length (g.rset (dd.b) PA PB)) : Int))) = false) → ([(Value.bool false)] = [(Value.bool true)]))))) ∧ (((g.rmay PA PB) = false) → (tailP g xs ps I m dd (g.set (dd.a) PA PB) (dd.b)))))))))))))
end Go.Proofs.Ytecdmdglkkeidaa
end
section
namespace Go.Proofs.Ytecdmdglkkeidaa
open Go.RowKit Go.Abs Go
def playsI (xs : List Value) (d : PlL) : Prop := ∃ i : Nat, d.i = i ∧ i ≤ 30 ∧ i ≤ xs.length ∧ d.a = d.b ∧ RightL d.a
def playsM (d : PlL) : Nat := (30 - d.i).toNat
theorem tail_ok (xs ps : List Value) {d : PlL} {i : Nat} (hi : d.i = i) (h30 : i < 30) (hx : i < xs.length) (hd : RightL d.a) {A : List Value} (hA : RightL A) : tailP kvF xs ps (playsI xs) playsM d A A := by
  have ho := ((right_iff A).1 hA.1).2
  have hl : A.length ≤ 1000000 := by omega
  have hl' : d.a.length ≤ 1000000 := by have := ((right_iff d.a).1 hd.1).2.2; omega
  unfold tailP
  generalize kvF.key (eI xs d.i.toNat) = k
  have hb := bs_rfirst k ho.1
  have hfd := fd_eq k ho.1
  have hrr := rfirst_range A k
  have fin : (!(bsF A k == rfirstF A k)) = true → [Value.bool false] = [Value.bool true] := fun h => by rw [hb] at h; simp at h
  have next : (-9223372036854775808 ≤ d.i + 1 ∧ d.i + 1 ≤ 9223372036854775807) ∧ ∃ ee : PlL, [Filler.dl xs, Filler.dl ps, Filler.dl ee.a, Filler.dl ee.b, Filler.val (Value.int IntKind.i64 ee.i)] = [Filler.dl xs, Filler.dl ps, Filler.dl A, Filler.dl A, Filler.val (Value.int IntKind.i64 (d.i + 1))] ∧ Nat.le (Nat.succ (playsM ee)) (playsM d) ∧ playsI xs ee := by
    refine ⟨by omega, ⟨d.i + 1, A, A⟩, rfl, ?_, i + 1, by show d.i + 1 = _; omega, by omega, by omega, rfl, hA⟩
    show (30 - (d.i + 1)).toNat + 1 ≤ (30 - d.i).toNat
    omega
  have hs : kvF.same A A = true := same_self A
  have hsd : kvF.same d.a d.a = true := same_self d.a
  have hr : kvF.right A = true := hA.1
  have nos : ∀ {X : Prop}, (kvF.same A A = false → X) := fun h => by rw [hs] at h; cases h
  have nosd : ∀ {X : Prop}, (kvF.same d.a d.a = false → X) := fun h => by rw [hsd] at h; cases h
  have nor : ∀ {X : Prop}, (kvF.right A = false → X) := fun h => by rw [hr] at h; cases h
  refine ⟨hl, fun h1 => ?_, fun h1 => ?_⟩ <;> refine ⟨hl, fun h2 => ?_, fun h2 => ?_⟩
  · have h1 : fdF A k = true := h1
    have h2' : rfirstF A k < (A.length : Int) := of_decide_eq_true h2
    refine ⟨⟨hrr.1, h2'⟩, fun h3 => ?_, fun h3 => ?_⟩
    · refine ⟨hl, fun _ => ⟨hl, fun _ => ⟨⟨hrr.1, h2'⟩, fun h4 => ?_, fun _ => ⟨hl', fun _ => ⟨hl, fin, fun _ => next⟩, nosd⟩⟩, nor⟩, nos⟩
      exfalso
      have h4 : (!eqB (getF A k) (vP A (rfirstF A k).toNat)) = true := h4
      unfold getF at h4
      rw [if_pos h1, hb, eqB_iff.2 rfl] at h4
      cases h4
    · exfalso
      have h3 : eqB (kP A (rfirstF A k).toNat) k = false := h3
      rw [hfd, h3, Bool.and_false] at h1; cases h1
  · exfalso
    have h1 : fdF A k = true := h1
    have h2 : decide (rfirstF A k < (A.length : Int)) = false := h2
    rw [hfd, h2, Bool.false_and] at h1; cases h1
  · have h1 : fdF A k = false := h1
    have h2' : rfirstF A k < (A.length : Int) := of_decide_eq_true h2
    refine ⟨⟨hrr.1, h2'⟩, fun h3 => ?_, fun h3 => ?_⟩
    · exfalso
      have h2 : decide (rfirstF A k < (A.length : Int)) = true := h2
      have h3 : eqB (kP A (rfirstF A k).toNat) k = true := h3
      rw [hfd, h2, h3] at h1; cases h1
    · refine ⟨hl, fun _ => ⟨hl, fun _ => ⟨fun h4 => ?_, fun _ => ⟨hl', fun _ => ⟨hl, fin, fun _ => next⟩, nosd⟩⟩, nor⟩, nos⟩
      exfalso
      have h4 : (!eqB (getF A k) noB) = true := h4
      unfold getF at h4
      rw [if_neg (by rw [h1]; exact Bool.false_ne_true), eqB_iff.2 rfl] at h4
      cases h4
  · have h1 : fdF A k = false := h1
    refine ⟨hl, fun _ => ⟨hl, fun _ => ⟨fun h4 => ?_, fun _ => ⟨hl', fun _ => ⟨hl, fin, fun _ => next⟩, nosd⟩⟩, nor⟩, nos⟩
    exfalso
    have h4 : (!eqB (getF A k) noB) = true := h4
    unfold getF at h4
    rw [if_neg (by rw [h1]; exact Bool.false_ne_true), eqB_iff.2 rfl] at h4
    cases h4
theorem body_ok (xs ps : List Value) {d : PlL} {i : Nat} (hi : d.i = i) (h30 : i < 30) (hx : i < xs.length) (hab : d.a = d.b) (hd : RightL d.a) (k v : ByteArray) : bodyP kvF xs ps (playsI xs) playsM d k v := by
  have ho := ((right_iff d.a).1 hd.1).2
  have hl : d.a.length ≤ 1000000 := by omega
  unfold bodyP
  rw [← hab]
  have hok := setok_eq hd k v
  refine ⟨by omega, by omega, by decide, fun _ => ⟨hl, hl, ?_⟩, fun _ => ⟨hl, fun h1 => ⟨trivial, fun h2 => ⟨hl, fun h3 => ?_, fun h3 => ⟨hl, ?_⟩⟩, fun h2 => ?_⟩, fun h1 => ⟨trivial, fun h2 => ⟨hl, fun h3 => ?_, fun h3 => ?_⟩, fun h2 => ?_⟩⟩⟩
  · show tailP kvF xs ps (playsI xs) playsM d (dropF d.a (keyF (eI xs d.i.toNat))) (rdelF d.a (keyF (eI xs d.i.toNat)))
    rw [drop_rdel _ hd.2 ho.1]
    refine tail_ok xs ps hi h30 hx hd ?_
    rw [rdel_eq _ hd.2]
    exact right_filter _ hd
  · exfalso
    have h1 : setokF d.a k v = true := h1
    have h3 : decide (30 < ((rsetF d.a k v).length : Int)) = true := h3
    rw [hok, h3] at h1; simp at h1
  · obtain ⟨e1, e2⟩ := set_rset hd (k := k) (v := v) h1
    show tailP kvF xs ps (playsI xs) playsM d (setF d.a k v) (rsetF d.a k v)
    rw [e1]
    exact tail_ok xs ps hi h30 hx hd e2
  · exfalso
    have h1 : setokF d.a k v = true := h1
    have h2 : rmayF k v = false := h2
    rw [hok, h2] at h1; cases h1
  · have h1 : setokF d.a k v = false := h1
    have e : setF d.a k v = d.a := by unfold setF; rw [if_neg (by rw [h1]; exact Bool.false_ne_true)]
    show tailP kvF xs ps (playsI xs) playsM d (setF d.a k v) d.a
    rw [e]
    exact tail_ok xs ps hi h30 hx hd hd
  · exfalso
    have h1 : setokF d.a k v = false := h1
    have h2 : rmayF k v = true := h2
    have h3 : decide (30 < ((rsetF d.a k v).length : Int)) = false := h3
    rw [hok, h2, h3] at h1; cases h1
  · have h1 : setokF d.a k v = false := h1
    have e : setF d.a k v = d.a := by unfold setF; rw [if_neg (by rw [h1]; exact Bool.false_ne_true)]
    show tailP kvF xs ps (playsI xs) playsM d (setF d.a k v) d.a
    rw [e]
    exact tail_ok xs ps hi h30 hx hd hd
theorem tdiv12 {x : Int} (h : -9223372036854775808 ≤ x ∧ x ≤ 9223372036854775807) : -9223372036854775808 ≤ x.tdiv 12 ∧ x.tdiv 12 ≤ 9223372036854775807 := by
  rcases Int.le_total 0 x with h0 | h0
  · rw [Int.tdiv_eq_ediv_of_nonneg h0]; omega
  · have : x.tdiv 12 = -((-x) / 12) := by
      rw [← Int.tdiv_eq_ediv_of_nonneg (by omega : 0 ≤ -x), Int.neg_tdiv, Int.neg_neg]
    rw [this]; omega
end Go.Proofs.Ytecdmdglkkeidaa
end
section
namespace Go.Proofs.Ytecdmdglkkeidaa
open Go.RowKit Go.Abs Go
theorem cmpC_ok : ∀ args h K, cmpC cmpB args h K → CallSem Try.prog 56 args h K := by
  intro args h K e μ base w args' hl hrel hfree
  unfold cmpC at e
  split at e
  case h_2 => exact e.elim
  rename_i a b
  split at e
  case h_2 => exact e.elim
  rename_i x y hx hy
  obtain ⟨v1, l1, e1, r1, hl⟩ := hl.inv_cons
  obtain ⟨v2, l2, rfl, r2, hl⟩ := hl.inv_cons
  have := hl.inv_nil; subst this
  have r1 := r1.den; rw [hx] at r1
  have r2 := r2.den; rw [hy] at r2
  rw [r1.inv_string, r2.inv_string] at e1
  have : args' = #[.string x, .string y] := Array.toList_inj.1 e1
  subst this
  obtain ⟨v', w', μ', h1, h2⟩ := externA_run (P := Try.prog) (μ := μ) (base := base) (w := w) (fn := Try.f56) (args := [.string x, .string y]) (args' := #[.string x, .string y]) (v := goInt (Lib.compareBytes x.data.toList y.data.toList)) (h := h) (h' := h)
    rfl (All2.cons (.plain1 rfl) (All2.cons (.plain1 rfl) All2.nil)) hrel (fun h => by omega) Try.func56 rfl
  refine .inl ⟨v', w', h1, mk (.int .i64 (cmpB x y)), h, μ', e, ?_⟩
  have hv : v' = .int .i64 (cmpB x y) := h2.val.inv_int
  subst hv
  refine ⟨.zero (.mark (.plain rfl) rfl), h2.sim.rel, fun b hb => ?_, h2.sim.fr, h2.sim.own, fun i hi => ?_, Nat.le_refl _, h2.sim.le.z, h2.sim.fz⟩
  · by_cases e : μ' b = μ b
    · rw [e]; exact hfree b hb
    · have := h2.dom b e; omega
  · by_cases e : μ' i = μ i
    · exact e
    · have := h2.dom i e; omega
theorem bs_ok : PFOk Try.prog 51 (bsP std kvF) :=
  pf_ok Try.progOk (conL_ok fun x hx => by rw [List.mem_singleton.1 hx]; exact cmpC_ok) (inCallF_ok 60) (bsP std kvF) Try.func51 (show _ = some (bodyS Try.prog 51) by kernel_rfl) fun d hd => bs_run d.1 d.2.1 hd
theorem bsCon_ok : ConOk Try.prog (bsCon std kvF) := conL_ok fun x hx => by rw [List.mem_singleton.1 hx]; exact pcon_ok bs_ok
theorem may_ok : PFOk Try.prog 45 (mayP kvF) :=
  pf_ok (LS := fun _ => noL) Try.progOk (noCon_ok _) (inCallF_ok 60) (mayP kvF) Try.func45 (show _ = some (bodyS Try.prog 45) by kernel_rfl) fun d _ => may_run d.1.1 d.1.2.1
theorem same_ok : PFOk Try.prog 19 (sameP std kvF) :=
  pf_ok Try.progOk (noCon_ok _) (inCallF_ok 60) (sameP std kvF) Try.func19 (show _ = some (bodyS Try.prog 19) by kernel_rfl) fun d hd => same_run d.1 d.2.1 hd
theorem get_ok : PFOk Try.prog 26 (getP std kvF) :=
  pf_ok (LS := fun _ => noL) Try.progOk bsCon_ok (inCallF_ok 60) (getP std kvF) Try.func26 (show _ = some (bodyS Try.prog 26) by kernel_rfl) fun d hd => get_run d.1 d.2.1 hd
theorem rfirst_ok : PFOk Try.prog 35 (rfirstP std kvF) :=
  pf_ok Try.progOk (noCon_ok _) (inCallF_ok 60) (rfirstP std kvF) Try.func35 (show _ = some (bodyS Try.prog 35) by kernel_rfl) fun d hd => rfirst_run d.1 d.2.1 hd
theorem rset_ok : PFOk Try.prog 36 (rsetP std kvF) :=
  pf_ok (LS := fun _ => noL) Try.progOk (conL_ok fun x hx => by rw [List.mem_singleton.1 hx]; exact pcon_ok rfirst_ok) (inCallF_ok 60) (rsetP std kvF) Try.func36 (show _ = some (bodyS Try.prog 36) by kernel_rfl) fun d hd => rset_run d.1 d.2.1.1 d.2.1.2.1 hd
set_option maxHeartbeats 4000000 in
theorem cat_ok : PFOk Try.prog 46 (catP std kvF) :=
  pf_ok (LS := fun d => catLs d.1 (fun e => e.n = d.1.length ∧ ∃ i : Nat, e.i = i ∧ i ≤ d.1.length ∧ e.s = sumL d.1 i) (fun e => (e.n - e.i).toNat) (fun e => e.n = d.1.length ∧ ∃ i : Nat, e.i = i ∧ i ≤ d.1.length ∧ e.r = catL d.1 i) fun e => (e.n - e.i).toNat) Try.progOk (conL_ok fun x hx => by rw [List.mem_singleton.1 hx]; exact pcon_ok grow_ok) (inCallF_ok 60) (catP std kvF) Try.func46 (show _ = some (bodyS Try.prog 46) by kernel_rfl) fun d hd => cat_run d.1 (show d.1.length ≤ 3 from hd.1) (show ∀ i, i < d.1.length → (eL d.1 i).length ≤ 1000000 from hd.2)
theorem inI_std {n : Int} (h : inI std n) : -9223372036854775808 ≤ n ∧ n ≤ 9223372036854775807 := by
  obtain ⟨h1, h2⟩ := h
  have h1 : -9223372036854775808 ≤ n := h1
  have h2 : n ≤ 9223372036854775807 := h2
  exact ⟨h1, h2⟩
theorem withinCon_ok : ConOk Try.prog (withinCon std) := conL_ok fun x hx => by rw [List.mem_singleton.1 hx]; exact withinC_ok
theorem key_ok : PFOk Try.prog 25 (keyP std kvF) :=
  pf_ok (LS := fun _ => noL) Try.progOk withinCon_ok (inCallF_ok 60) (keyP std kvF) Try.func25 (show _ = some (bodyS Try.prog 25) by kernel_rfl) fun d hd => by
    obtain ⟨n, u⟩ := d
    obtain ⟨h⟩ := key_run n (inI_std hd)
    exact h
theorem txt_ok : PFOk Try.prog 33 (txtP std kvF) :=
  pf_ok (LS := fun _ => noL) Try.progOk withinCon_ok (inCallF_ok 60) (txtP std kvF) Try.func33 (show _ = some (bodyS Try.prog 33) by kernel_rfl) fun d hd => by
    obtain ⟨n, u⟩ := d
    obtain ⟨h⟩ := txt_run n (inI_std hd)
    exact h
theorem setCon_ok : ConOk Try.prog (setCon std kvF) := draw_ok (conL_ok fun x hx => by
  simp only [List.mem_cons, List.not_mem_nil, or_false] at hx
  rcases hx with rfl | rfl
  · exact pcon_ok bs_ok
  · exact pcon_ok may_ok) fun x hx => by rw [List.mem_singleton.1 hx]; exact dcon_ok rfl cat_ok
theorem set_ok : PFOk Try.prog 24 (setP std kvF) :=
  pf_ok (LS := fun _ => noL) Try.progOk setCon_ok (inCallF_ok 60) (setP std kvF) Try.func24 (show _ = some (bodyS Try.prog 24) by kernel_rfl) fun d hd => set_run d.1 d.2.1.1 d.2.1.2.1 hd
def IntsOk (xs : List Value) : Prop := ∀ i, i < xs.length → -9223372036854775808 ≤ eI xs i ∧ eI xs i ≤ 9223372036854775807
/-- KvPlays, of lists of numbers. -/
noncomputable def playsQ : PF := pf (.cons cIs (.cons cP .nil)) (fun d => IntsOk d.1) [.bool false] fun _ => [.bool true]
end Go.Proofs.Ytecdmdglkkeidaa
end
section
namespace Go.Proofs.Ytecdmdglkkeidaa
open Go.Abs Go
set_option maxRecDepth 100000 in
theorem pairs_vc (g : KvF) (xs ks : List Value) (I : PaL → Prop) (m : PaL → Nat) (J : PaM → Prop) (q : PaM → Nat) : runP std (pairsCon std g) 60 (pairsLs xs ks I m J q) (pairsP std g) 14 Try.f14 (xs, ()) =
  (∃ (d9 : PaL), (([(Filler.dl xs), (Filler.val (Value.int IntKind.i64 (d9.i))), (Filler.me (d9.es))] = [(Filler.dl xs), (Filler.val (Value.int IntKind.i64 (0 : Int))), (Filler.me [])]) ∧ ((I d9) ∧ (∀ (d10 : PaL), ((I d10) → ((((decide ((d10.i) < ((List.length xs) : Int))) = true) → ((((decide ((d10.i) < (12 : Int))) = true) → ((((0 : Int) ≤ (d10.i)) ∧ ((d10.i) < ((List.length xs) : Int))) ∧ ((((-9223372036854775808 : Int) ≤ (eI xs (Int.toNat (d10.i)))) ∧ ((eI xs (Int.toNat (d10.i))) ≤ (9223372036854775807 : Int))) ∧ ((((0 : Int) ≤ (d10.i)) ∧ ((d10.i) < ((List.length xs) : Int))) ∧ ((((0 : Int) < (12 : Int)) ∧ (((-9223372036854775808 : Int) ≤ (eI xs (Int.toNat (d10.i)))) ∧ ((eI xs (Int.toNat (d10.i))) ≤ (9223372036854775807 : Int)))) ∧ ((((-9223372036854775808 : Int) ≤ (std.quo (eI xs (Int.toNat (d10.i))) (12 : Int))) ∧ ((std.quo (eI xs (Int.toNat (d10.i))) (12 : Int)) ≤ (9223372036854775807 : Int))) ∧ ((((-9223372036854775808 : Int) ≤ ((d10.i) + (1 : Int))) ∧ (((d10.i) + (1 : Int)) ≤ (9223372036854775807 : Int))) ∧ (∃ (d14 : PaL), (([(Filler.dl xs), (Filler.val (Value.int IntKind.i64 (d14.i))), (Filler.me (d14.es))] = [(Filler.dl xs), (Filler.val (Value.int IntKind.i64 ((d10.i) + (1 : Int)))), (Filler.me (std.mput (Value.string (ByteArray.mk (Array.mk []))) (d10.es) (Value.string (g.key (eI xs (Int.toNat (d10.i))))) (Value.string (g.txt (std.quo (eI xs (Int.toNat (d10.i))) (12 : Int))))))]) ∧ ((Nat.le (Nat.succ (m d14)) (m d10)) ∧ (I d14))))))))))) ∧ (((decide ((d10.i) < (12 : Int))) = false) → (∃ (d14 : PaM), (([(Filler.dl (d14.r)), (Filler.dl ks), (Filler.val (Value.int IntKind.i64 (d14.n))), (Filler.val (Value.int IntKind.i64 (d14.i))), (Filler.me (d14.es))] = [(Filler.dl []), (Filler.dl [(Value.string (ByteArray.mk (Array.mk [(97 : UInt8)]))), (Value.string (ByteArray.mk (Array.mk [(97 : UInt8), (98 : UInt8)]))), (Value.string (ByteArray.mk (Array.mk [(97 : UInt8), (98 : UInt8), (99 : UInt8)]))), (Value.string (ByteArray.mk (Array.mk [(98 : UInt8)]))), (Value.string (ByteArray.mk (Array.mk [(98 : UInt8), (97 : UInt8)]))), (Value.string (ByteArray.mk (Array.mk [(115 : UInt8), (47 : UInt8), (97 : UInt8)]))), (Value.string (ByteArray.mk (Array.mk [(115 : UInt8), (47 : UInt8), (98 : UInt8)]))), (Value.string (ByteArray.mk (Array.mk [(115 : UInt8), (47 : UInt8), (99 : UInt8)]))), (Value.string (ByteArray.mk (Array.mk [(116 : UInt8)]))), (Value.string (ByteArray.mk (Array.mk [(117 : UInt8)]))), (Value.string (ByteArray.mk (Array.mk [(122 : UInt8)]))), (Value.string (ByteArray.mk (Array.mk [(122 : UInt8), (122 : UInt8)])))]), (Filler.val (Value.int IntKind.i64 (12 : Int))), (Filler.val (Value.int IntKind.i64 (0 : Int))), (Filler.me (d10.es))]) ∧ ((J d14) ∧ (∀ (d15 : PaM), ((J d15) → ((((decide ((d15.i) < (d15.n))) = true) → ((((0 : Int) ≤ (d15.i)) ∧ ((d15.i) < ((List.length ks) : Int))) ∧ ((((std.mhas (Value.string (ByteArray.mk (Array.mk []))) (d15.es) (Value.string (eS ks (Int.toNat (d15.i))))) = true) → ((((List.length ((d15.r) ++ [(Value.agg (Array.mk [(Value.string (eS ks (Int.toNat (d15.i)))), (Value.string (std.dstr (std.mget (Value.string (ByteArray.mk (Array.mk []))) (Value.string (ByteArray.mk (Array.mk []))) (d15.es) (Value.string (eS ks (Int.toNat (d15.i)))))))]))])) * 32) ≤ 140737488355328) ∧ ((((-9223372036854775808 : Int) ≤ ((d15.i) + (1 : Int))) ∧ (((d15.i) + (1 : Int)) ≤ (9223372036854775807 : Int))) ∧ (∃ (d19 : PaM), (([(Filler.dl (d19.r)), (Filler.dl ks), (Filler.val (Value.int IntKind.i64 (d19.n))), (Filler.val (Value.int IntKind.i64 (d19.i))), (Filler.me (d19.es))] = [(Filler.dl ((d15.r) ++ [(Value.agg (Array.mk [(Value.string (eS ks (Int.toNat (d15.i)))), (Value.string (std.dstr (std.mget (Value.string (ByteArray.mk (Array.mk []))) (Value.string (ByteArray.mk (Array.mk []))) (d15.es) (Value.string (eS ks (Int.toNat (d15.i)))))))]))])), (Filler.dl ks), (Filler.val (Value.int IntKind.i64 (d15.n))), (Filler.val (Value.int IntKind.i64 ((d15.i) + (1 : Int)))), (Filler.me (d15.es))]) ∧ ((Nat.le (Nat.succ (q d19)) (q d15)) ∧ (J d19))))))) ∧ (((std.mhas (Value.string (ByteArray.mk (Array.mk []))) (d15.es) (Value.string (eS ks (Int.toNat (d15.i))))) = false) → ((((-9223372036854775808 : Int) ≤ ((d15.i) + (1 : Int))) ∧ (((d15.i) + (1 : Int)) ≤ (9223372036854775807 : Int))) ∧ (∃ (d19 : PaM), (([(Filler.dl (d19.r)), (Filler.dl ks), (Filler.val (Value.int IntKind.i64 (d19.n))), (Filler.val (Value.int IntKind.i64 (d19.i))), (Filler.me (d19.es))] = [(Filler.dl (d15.r)), (Filler.dl ks), (Filler.val (Value.int IntKind.i64 (d15.n))), (Filler.val (Value.int IntKind.i64 ((d15.i) + (1 : Int)))), (Filler.me (d15.es))]) ∧ ((Nat.le (Nat.succ (q d19)) (q d15)) ∧ (J d19))))))))) ∧ (((decide ((d15.i) < (d15.n))) = false) → ([(dsl zP (d15.r))] = [(dsl zP (g.pairs xs))]))))))))))) ∧ (((decide ((d10.i) < ((List.length xs) : Int))) = false) → (∃ (d13 : PaM), (([(Filler.dl (d13.r)), (Filler.dl ks), (Filler.val (Value.int IntKind.i64 (d13.n))), (Filler.val (Value.int IntKind.i64 (d13.i))), (Filler.me (d13.es))] = [(Filler.dl []), (Filler.dl [(Value.string (ByteArray.mk (Array.mk [(97 : UInt8)]))), (Value.string (ByteArray.mk (Array.mk [(97 : UInt8), (98 : UInt8)]))), (Value.string (ByteArray.mk (Array.mk [(97 : UInt8), (98 : UInt8), (99 : UInt8)]))), (Value.string (ByteArray.mk (Array.mk [(98 : UInt8)]))), (Value.string (ByteArray.mk (Array.mk [(98 : UInt8), (97 : UInt8)]))), (Value.string (ByteArray.mk (Array.mk [(115 : UInt8), (47 : UInt8), (97 : UInt8)]))), (Value.string (ByteArray.mk (Array.mk [(115 : UInt8), (47 : UInt8), (98 : UInt8)]))), (Value.string (ByteArray.mk (Array.mk [(115 : UInt8), (47 : UInt8), (99 : UInt8)]))), (Value.string (ByteArray.mk (Array.mk [(116 : UInt8)]))), (Value.string (ByteArray.mk (Array.mk [(117 : UInt8)]))), (Value.string (ByteArray.mk (Array.mk [(122 : UInt8)]))), (Value.string (ByteArray.mk (Array.mk [(122 : UInt8), (122 : UInt8)])))]), (Filler.val (Value.int IntKind.i64 (12 : Int))), (Filler.val (Value.int IntKind.i64 (0 : Int))), (Filler.me (d10.es))]) ∧ ((J d13) ∧ (∀ (d14 : PaM), ((J d14) → ((((decide ((d14.i) < (d14.n))) = true) → ((((0 : Int) ≤ (d14.i)) ∧ ((d14.i) < ((List.length ks) : Int))) ∧ ((((std.mhas (Value.string (ByteArray.mk (Array.mk []))) (d14.es) (Value.string (eS ks (Int.toNat (d14.i))))) = true) → ((((List.length ((d14.r) ++ [(Value.agg (Array.mk [(Value.string (eS ks (Int.toNat (d14.i)))), (Value.string (std.dstr (std.mget (Value.string (ByteArray.mk (Array.mk []))) (Value.string (ByteArray.mk (Array.mk []))) (d14.es) (Value.string (eS ks (Int.toNat (d14.i)))))))]))])) * 32) ≤ 140737488355328) ∧ ((((-9223372036854775808 : Int) ≤ ((d14.i) + (1 : Int))) ∧ (((d14.i) + (1 : Int)) ≤ (9223372036854775807 : Int))) ∧ (∃ (d18 : PaM), (([(Filler.dl (d18.r)), (Filler.dl ks), (Filler.val (Value.int IntKind.i64 (d18.n))), (Filler.val (Value.int IntKind.i64 (d18.i))), (Filler.me (d18.es))] = [(Filler.dl ((d14.r) ++ [(Value.agg (Array.mk [(Value.string (eS ks (Int.toNat (d14.i)))), (Value.string (std.dstr (std.mget (Value.string (ByteArray.mk (Array.mk []))) (Value.string (ByteArray.mk (Array.mk []))) (d14.es) (Value.string (eS ks (Int.toNat (d14.i)))))))]))])), (Filler.dl ks), (Filler.val (Value.int IntKind.i64 (d14.n))), (Filler.val (Value.int IntKind.i64 ((d14.i) + (1 : Int)))), (Filler.me (d14.es))]) ∧ ((Nat.le (Nat.succ (q d18)) (q d14)) ∧ (J d18))))))) ∧ (((std.mhas (Value.string (ByteArray.mk (Array.mk []))) (d14.es) (Value.string (eS ks (Int.toNat (d14.i))))) = false) → ((((-9223372036854775808 : Int) ≤ ((d14.i) + (1 : Int))) ∧ (((d14.i) + (1 : Int)) ≤ (9223372036854775807 : Int))) ∧ (∃ (d18 : PaM), (([(Filler.dl (d18.r)), (Filler.dl ks), (Filler.val (Value.int IntKind.i64 (d18.n))), (Filler.val (Value.int IntKind.i64 (d18.i))), (Filler.me (d18.es))] = [(Filler.dl (d14.r)), (Filler.dl ks), (Filler.val (Value.int IntKind.i64 (d14.n))), (Filler.val (Value.int IntKind.i64 ((d14.i) + (1 : Int)))), (Filler.me (d14.es))]) ∧ ((Nat.le (Nat.succ (q d18)) (q d14)) ∧ (J d18))))))))) ∧ (((decide ((d14.i) < (d14.n))) = false) → ([(dsl zP (d14.r))] = [(dsl zP (g.pairs xs))]))))))))))))))) := by kernel_rfl
end Go.Proofs.Ytecdmdglkkeidaa
end
section
namespace Go.Proofs.Ytecdmdglkkeidaa
open Go.RowKit Go.Abs Go
theorem esF_zero (xs : List Value) : esF xs 0 = [] := rfl
theorem esF_next (xs : List Value) (i : Nat) : esF xs (i + 1) = mput zS (esF xs i) (.string (keyF (eI xs i))) (.string (txtF (Int.tdiv (eI xs i) 12))) := rfl
theorem outL_len (es : List (Value × Value)) : ∀ i, (outL es i).length ≤ i
  | 0 => Nat.le_refl _
  | i + 1 => by
    have := outL_len es i
    unfold outL
    split
    · simp; omega
    · omega
def pairI (xs : List Value) (d : PaL) : Prop := ∃ i : Nat, d.i = i ∧ i ≤ xs.length ∧ i ≤ 12 ∧ d.es = esF xs i
def pairJ (xs : List Value) (d : PaM) : Prop := d.n = 12 ∧ d.es = esF xs (min xs.length 12) ∧ ∃ i : Nat, d.i = i ∧ i ≤ 12 ∧ d.r = outL d.es i
theorem keysV_len : keysV.length = 12 := rfl
theorem tdiv_small {n : Int} (h : -9223372036854775808 ≤ n ∧ n ≤ 9223372036854775807) : -9223372036854775808 ≤ Int.tdiv n 12 ∧ Int.tdiv n 12 ≤ 9223372036854775807 := by
  have h1 : (Int.tdiv n 12).natAbs = n.natAbs / 12 := Int.natAbs_tdiv n 12
  omega
theorem pairs2 (xs : List Value) {es : List (Value × Value)} (he : es = esF xs (min xs.length 12)) : (∃ (d14 : PaM), (([(Filler.dl (d14.r)), (Filler.dl keysV), (Filler.val (Value.int IntKind.i64 (d14.n))), (Filler.val (Value.int IntKind.i64 (d14.i))), (Filler.me (d14.es))] = [(Filler.dl []), (Filler.dl [(Value.string (ByteArray.mk (Array.mk [(97 : UInt8)]))), (Value.string (ByteArray.mk (Array.mk [(97 : UInt8), (98 : UInt8)]))), (Value.string (ByteArray.mk (Array.mk [(97 : UInt8), (98 : UInt8), (99 : UInt8)]))), (Value.string (ByteArray.mk (Array.mk [(98 : UInt8)]))), (Value.string (ByteArray.mk (Array.mk [(98 : UInt8), (97 : UInt8)]))), (Value.string (ByteArray.mk (Array.mk [(115 : UInt8), (47 : UInt8), (97 : UInt8)]))), (Value.string (ByteArray.mk (Array.mk [(115 : UInt8), (47 : UInt8), (98 : UInt8)]))), (Value.string (ByteArray.mk (Array.mk [(115 : UInt8), (47 : UInt8), (99 : UInt8)]))), (Value.string (ByteArray.mk (Array.mk [(116 : UInt8)]))), (Value.string (ByteArray.mk (Array.mk [(117 : UInt8)]))), (Value.string (ByteArray.mk (Array.mk [(122 : UInt8)]))), (Value.string (ByteArray.mk (Array.mk [(122 : UInt8), (122 : UInt8)])))]), (Filler.val (Value.int IntKind.i64 (12 : Int))), (Filler.val (Value.int IntKind.i64 (0 : Int))), (Filler.me es)]) ∧ ((pairJ xs d14) ∧ (∀ (d15 : PaM), ((pairJ xs d15) → ((((decide ((d15.i) < (d15.n))) = true) → ((((0 : Int) ≤ (d15.i)) ∧ ((d15.i) < ((List.length keysV) : Int))) ∧ ((((std.mhas (Value.string (ByteArray.mk (Array.mk []))) (d15.es) (Value.string (eS keysV (Int.toNat (d15.i))))) = true) → ((((List.length ((d15.r) ++ [(Value.agg (Array.mk [(Value.string (eS keysV (Int.toNat (d15.i)))), (Value.string (std.dstr (std.mget (Value.string (ByteArray.mk (Array.mk []))) (Value.string (ByteArray.mk (Array.mk []))) (d15.es) (Value.string (eS keysV (Int.toNat (d15.i)))))))]))])) * 32) ≤ 140737488355328) ∧ ((((-9223372036854775808 : Int) ≤ ((d15.i) + (1 : Int))) ∧ (((d15.i) + (1 : Int)) ≤ (9223372036854775807 : Int))) ∧ (∃ (d19 : PaM), (([(Filler.dl (d19.r)), (Filler.dl keysV), (Filler.val (Value.int IntKind.i64 (d19.n))), (Filler.val (Value.int IntKind.i64 (d19.i))), (Filler.me (d19.es))] = [(Filler.dl ((d15.r) ++ [(Value.agg (Array.mk [(Value.string (eS keysV (Int.toNat (d15.i)))), (Value.string (std.dstr (std.mget (Value.string (ByteArray.mk (Array.mk []))) (Value.string (ByteArray.mk (Array.mk []))) (d15.es) (Value.string (eS keysV (Int.toNat (d15.i)))))))]))])), (Filler.dl keysV), (Filler.val (Value.int IntKind.i64 (d15.n))), (Filler.val (Value.int IntKind.i64 ((d15.i) + (1 : Int)))), (Filler.me (d15.es))]) ∧ ((Nat.le (Nat.succ ((fun d : PaM => (d.n - d.i).toNat) d19)) ((fun d : PaM => (d.n - d.i).toNat) d15)) ∧ (pairJ xs d19))))))) ∧ (((std.mhas (Value.string (ByteArray.mk (Array.mk []))) (d15.es) (Value.string (eS keysV (Int.toNat (d15.i))))) = false) → ((((-9223372036854775808 : Int) ≤ ((d15.i) + (1 : Int))) ∧ (((d15.i) + (1 : Int)) ≤ (9223372036854775807 : Int))) ∧ (∃ (d19 : PaM), (([(Filler.dl (d19.r)), (Filler.dl keysV), (Filler.val (Value.int IntKind.i64 (d19.n))), (Filler.val (Value.int IntKind.i64 (d19.i))), (Filler.me (d19.es))] = [(Filler.dl (d15.r)), (Filler.dl keysV), (Filler.val (Value.int IntKind.i64 (d15.n))), (Filler.val (Value.int IntKind.i64 ((d15.i) + (1 : Int)))), (Filler.me (d15.es))]) ∧ ((Nat.le (Nat.succ ((fun d : PaM => (d.n - d.i).toNat) d19)) ((fun d : PaM => (d.n - d.i).toNat) d15)) ∧ (pairJ xs d19))))))))) ∧ (((decide ((d15.i) < (d15.n))) = false) → ([(dsl zP (d15.r))] = [(dsl zP (kvF.pairs xs))])))))))) := by
  refine ⟨⟨[], 12, 0, es⟩, rfl, ⟨rfl, he, 0, rfl, Nat.zero_le _, rfl⟩, fun d ⟨hn, hes, i, hi, hle, hr⟩ => ⟨fun h => ?_, fun h => ?_⟩⟩
  · have h := of_decide_eq_true h
    have hlt : i < 12 := by omega
    have hlen := outL_len d.es i
    have ho : outL d.es (i + 1) = if mhas zS d.es (.string (eS keysV i)) then outL d.es i ++ [prV (eS keysV i) (dstr (mget zS zS d.es (.string (eS keysV i))))] else outL d.es i := rfl
    rw [hi, Int.toNat_natCast]
    refine ⟨⟨by omega, by rw [keysV_len]; omega⟩, fun e => ⟨?_, by omega, ⟨d.r ++ [prV (eS keysV i) (dstr (mget zS zS d.es (.string (eS keysV i))))], d.n, (i : Int) + 1, d.es⟩, rfl, ?_, hn, hes, i + 1, rfl, hlt, ?_⟩, fun e => ⟨by omega, ⟨d.r, d.n, (i : Int) + 1, d.es⟩, rfl, ?_, hn, hes, i + 1, rfl, hlt, ?_⟩⟩
    · rw [hr, List.length_append]; show ((outL d.es i).length + 1) * 32 ≤ _; omega
    · show (d.n - ((i : Int) + 1)).toNat + 1 ≤ (d.n - d.i).toNat; omega
    · show d.r ++ _ = outL d.es (i + 1)
      rw [ho, if_pos (show mhas zS d.es (.string (eS keysV i)) = true from e), hr]
    · show (d.n - ((i : Int) + 1)).toNat + 1 ≤ (d.n - d.i).toNat; omega
    · show d.r = outL d.es (i + 1)
      rw [ho, if_neg (by rw [show mhas zS d.es (.string (eS keysV i)) = false from e]; exact Bool.false_ne_true), hr]
  · have h := of_decide_eq_false h
    show [dsl zP d.r] = [dsl zP (pairsF xs)]
    rw [hr, hes, show i = 12 by omega]; rfl
theorem pairs_run (xs : List Value) (hx : IntsOk xs) : Holds (runP std (pairsCon std kvF) 60 (pairsLs xs keysV (pairI xs) (fun d => ((xs.length : Int) - d.i).toNat) (pairJ xs) fun d => (d.n - d.i).toNat) (pairsP std kvF) 14 Try.f14 (xs, ())) := by
  constructor
  rw [pairs_vc]
  refine ⟨⟨0, []⟩, rfl, ⟨0, rfl, Nat.zero_le _, Nat.zero_le _, rfl⟩, fun d ⟨i, hi, hle, h12, hes⟩ => ⟨fun h => ⟨fun h1 => ?_, fun h1 => ?_⟩, fun h => ?_⟩⟩
  · have h := of_decide_eq_true h
    have h1 := of_decide_eq_true h1
    have hlt : i < xs.length := by omega
    have hv := hx i hlt
    have hq := tdiv_small hv
    rw [hi, Int.toNat_natCast]
    refine ⟨by omega, hv, by omega, ⟨by omega, hv⟩, hq, by omega, ⟨(i : Int) + 1, esF xs (i + 1)⟩, ?_, ?_, i + 1, rfl, hlt, by omega, rfl⟩
    · rw [esF_next, ← hes]; rfl
    · show ((xs.length : Int) - ((i : Int) + 1)).toNat + 1 ≤ ((xs.length : Int) - (i : Int)).toNat; omega
  · have h := of_decide_eq_true h
    have h1 := of_decide_eq_false h1
    exact pairs2 xs (by rw [hes]; congr 1; omega)
  · have h := of_decide_eq_false h
    exact pairs2 xs (by rw [hes]; congr 1; omega)
theorem pairsCon_ok : ConOk Try.prog (pairsCon std kvF) := draw_ok (noCon_ok _) fun x hx => by
  simp only [List.mem_cons, List.not_mem_nil, or_false] at hx
  rcases hx with rfl | rfl
  · exact dcon_ok rfl key_ok
  · exact dcon_ok rfl txt_ok
theorem pairs_ok : PFOk Try.prog 14 (pairsP std kvF) :=
  pf_ok (LS := fun d => pairsLs d.1 keysV (pairI d.1) (fun e => ((d.1.length : Int) - e.i).toNat) (pairJ d.1) fun e => (e.n - e.i).toNat) Try.progOk pairsCon_ok (inCallF_ok 60) (pairsP std kvF) Try.func14 (show _ = some (bodyS Try.prog 14) by kernel_rfl) fun d hd => by
    obtain ⟨h⟩ := pairs_run d.1 hd
    exact h
/-- Values are among the texts. -/
theorem txt_small (n : Int) : lenB (txtF n) ≤ 8 := by
  have : ∀ k, k < 5 → lenB (eS txtsV k) ≤ 8 := by decide +kernel
  exact this _ (by omega)
def ValsOk (es : List (Value × Value)) : Prop := ∀ e ∈ es, ∃ s, e.2 = .string s ∧ lenB s ≤ 8
theorem mput_vals {kz k : Value} {s : ByteArray} (hs : lenB s ≤ 8) : ∀ {es : List (Value × Value)}, ValsOk es → ValsOk (mput kz es k (.string s))
  | [], _, e, he => by rw [List.mem_singleton.1 he]; exact ⟨s, rfl, hs⟩
  | e0 :: es, h, e, he => by
    unfold mput at he
    split at he
    · rcases List.mem_cons.1 he with rfl | he
      · exact ⟨s, rfl, hs⟩
      · exact h e (List.mem_cons_of_mem _ he)
    · rcases List.mem_cons.1 he with rfl | he
      · exact h _ (List.mem_cons_self ..)
      · exact mput_vals hs (fun e he => h e (List.mem_cons_of_mem _ he)) e he
theorem es_vals (xs : List Value) : ∀ n, ValsOk (esF xs n)
  | 0, e, he => by cases he
  | n + 1, e, he => mput_vals (txt_small _) (es_vals xs n) e he
theorem mget_small {kz k : Value} : ∀ {es : List (Value × Value)}, ValsOk es → lenB (dstr (mget kz zS es k)) ≤ 8
  | [], _ => by show 0 ≤ 8; omega
  | e0 :: es, h => by
    by_cases c : keyB kz e0.1 k = true
    · obtain ⟨s, h1, h2⟩ := h e0 (List.mem_cons_self ..)
      have : mget kz zS (e0 :: es) k = e0.2 := by unfold mget mfind; rw [if_pos c]; rfl
      rw [this, h1]; exact h2
    · have : mget kz zS (e0 :: es) k = mget kz zS es k := by unfold mget; rw [show mfind kz (e0 :: es) k = mfind kz es k by rw [mfind, if_neg c]]
      rw [this]
      exact mget_small fun e he => h e (List.mem_cons_of_mem _ he)
theorem out_mem {es : List (Value × Value)} (h : ValsOk es) : ∀ {i : Nat} {x : Value}, x ∈ outL es i → ∃ j s, j < i ∧ x = prV (eS keysV j) s ∧ lenB s ≤ 8
  | 0, x, hx => by cases hx
  | i + 1, x, hx => by
    unfold outL at hx
    split at hx
    · rcases List.mem_append.1 hx with hx | hx
      · obtain ⟨j, s, h1, h2⟩ := out_mem h hx
        exact ⟨j, s, by omega, h2⟩
      · exact ⟨i, _, by omega, List.mem_singleton.1 hx, mget_small h⟩
    · obtain ⟨j, s, h1, h2⟩ := out_mem h hx
      exact ⟨j, s, by omega, h2⟩
theorem keys_rise : ∀ j, j < 12 → ∀ i, i < j → ltB (eS keysV i) (eS keysV j) = true := by decide +kernel
theorem keys_small : ∀ j, j < 12 → eqB (eS keysV j) noB = false ∧ lenB (eS keysV j) ≤ 16 := by decide +kernel
theorem out_ord {es : List (Value × Value)} (h : ValsOk es) : ∀ {i : Nat}, i ≤ 12 → Ord (outL es i)
  | 0, _ => List.Pairwise.nil
  | i + 1, hi => by
    have ih := out_ord h (i := i) (by omega)
    unfold outL
    split
    · refine List.pairwise_append.2 ⟨ih, List.pairwise_singleton _ _, fun a ha b hb => ?_⟩
      obtain ⟨j, s, h1, rfl, h3⟩ := out_mem h ha
      rw [List.mem_singleton.1 hb]
      exact keys_rise i (by omega) j h1
    · exact ih
theorem pairs_right (xs : List Value) : RightL (pairsF xs) := by
  have hv := es_vals xs (min xs.length 12)
  have hm := fun {x} => out_mem hv (i := 12) (x := x)
  refine ⟨(right_iff _).2 ⟨fun x hx => ?_, out_ord hv (Nat.le_refl _), ?_⟩, fun x hx => ?_⟩
  · obtain ⟨j, s, h1, rfl, h3⟩ := hm hx
    have := keys_small j h1
    show mayF (eS keysV j) s = true
    unfold mayF
    rw [this.1, decide_eq_true (by omega), decide_eq_true (by omega)]; rfl
  · have := outL_len (esF xs (min xs.length 12)) 12
    show (outL _ 12).length ≤ 30
    omega
  · obtain ⟨j, s, h1, rfl, h3⟩ := hm hx
    rfl
end Go.Proofs.Ytecdmdglkkeidaa
end
section
namespace Go.Proofs.Ytecdmdglkkeidaa
open Go.RowKit Go.Abs Go
theorem bs_idx {l : List Value} (ho : Ord l) (k : ByteArray) : ∃ r : Nat, bsF l k = r ∧ r ≤ l.length ∧ (∀ i, i < r → ltB (kP l i) k = true) ∧ ∀ i, r ≤ i → i < l.length → ltB (kP l i) k = false := by
  have hr := bsF_range l k
  have hb := bs_rfirst k ho
  obtain ⟨h1, h2, h3, h4⟩ := firstN_ok (fun i => ltB (kP l i) k) l.length 0
  generalize hR : firstN (fun i => ltB (kP l i) k) l.length 0 = r at h1 h2 h3 h4
  have he : bsF l k = r := by rw [hb]; unfold rfirstF; rw [hR]
  refine ⟨r, he, by omega, fun i hi => h3 i (Nat.zero_le _) hi, fun i h5 h6 => ?_⟩
  cases hc : ltB (kP l i) k with
  | false => rfl
  | true =>
    have h7 := h4 (by omega)
    rcases Nat.lt_or_ge r i with h | h
    · rw [mono_of k ho r i h h6 hc] at h7; cases h7
    · rw [show i = r by omega] at hc; rw [hc] at h7; cases h7
theorem filter_idx {l : List Value} {p : Value → Bool} {i0 i1 : Nat} (h0 : i0 ≤ i1) (h1 : i1 ≤ l.length) (hp : ∀ i (h : i < l.length), p l[i] = decide (i0 ≤ i ∧ i < i1)) : l.filter p = (l.drop i0).take (i1 - i0) := by
  have hs : l = l.take i0 ++ ((l.drop i0).take (i1 - i0) ++ l.drop i1) := by
    conv => lhs; rw [← List.take_append_drop i0 l]
    congr 1
    conv => lhs; rw [← List.take_append_drop (i1 - i0) (l.drop i0)]
    rw [List.drop_drop, show i0 + (i1 - i0) = i1 by omega]
  conv => lhs; rw [hs]
  rw [List.filter_append, List.filter_append]
  have e1 : (l.take i0).filter p = [] := List.filter_eq_nil_iff.2 fun x hx => by
    obtain ⟨i, hi, rfl⟩ := List.getElem_of_mem hx
    rw [List.length_take] at hi
    rw [List.getElem_take, hp i (by omega), decide_eq_false (by omega)]; exact Bool.false_ne_true
  have e2 : ((l.drop i0).take (i1 - i0)).filter p = (l.drop i0).take (i1 - i0) := List.filter_eq_self.2 fun x hx => by
    obtain ⟨i, hi, rfl⟩ := List.getElem_of_mem hx
    rw [List.length_take, List.length_drop] at hi
    rw [List.getElem_take, List.getElem_drop, hp _ (by omega)]
    exact decide_eq_true (by omega)
  have e3 : (l.drop i1).filter p = [] := List.filter_eq_nil_iff.2 fun x hx => by
    obtain ⟨i, hi, rfl⟩ := List.getElem_of_mem hx
    rw [List.length_drop] at hi
    rw [List.getElem_drop, hp _ (by omega), decide_eq_false (by omega)]; exact Bool.false_ne_true
  rw [e1, e2, e3]; simp
def inRange (a b : ByteArray) (x : Value) : Bool := !ltB (keyV x) a && ltB (keyV x) b
theorem rng_filter {l : List Value} (ho : Ord l) (a b : ByteArray) : rngF l a b = l.filter (inRange a b) := by
  obtain ⟨ia, ha, hla, a1, a2⟩ := bs_idx ho a
  obtain ⟨ib, hb, hlb, b1, b2⟩ := bs_idx ho b
  unfold rngF
  rw [ha, hb, filter_idx (i0 := ia) (i1 := max ia ib) (by omega) (by omega) fun i hi => ?_]
  · rw [Int.toNat_natCast, show (max (ia : Int) (ib : Int)).toNat = max ia ib by omega]
  · unfold inRange
    rw [← kP_get hi]
    by_cases h1 : i < ia
    · rw [a1 i h1, decide_eq_false (by omega)]; rfl
    · rw [a2 i (by omega) hi]
      by_cases h2 : i < ib
      · rw [b1 i h2, decide_eq_true (by omega)]; rfl
      · rw [b2 i (by omega) hi, decide_eq_false (by omega)]; rfl
theorem bs_mono {l : List Value} (ho : Ord l) {a b : ByteArray} (h : (ltB a b || eqB a b) = true) : bsF l a ≤ bsF l b := by
  obtain ⟨ia, ha, hla, a1, a2⟩ := bs_idx ho a
  obtain ⟨ib, hb, hlb, b1, b2⟩ := bs_idx ho b
  rw [ha, hb]
  rcases Nat.lt_or_ge ib ia with hlt | hge
  · exfalso
    have h1 := a1 ib hlt
    have h2 := b2 ib (Nat.le_refl _) (by omega)
    rw [Bool.or_eq_true] at h
    rcases h with h | h
    · rw [lt_trans h1 h] at h2; cases h2
    · rw [← eqB_iff.1 h, h1] at h2; cases h2
  · omega
theorem rng_join {l : List Value} (ho : Ord l) {a b c : ByteArray} (h1 : (ltB a b || eqB a b) = true) (h2 : (ltB b c || eqB b c) = true) : rngF l a b ++ rngF l b c = rngF l a c := by
  have m1 := bs_mono ho h1
  have m2 := bs_mono ho h2
  have r1 := bsF_range l a
  unfold rngF
  rw [show max (bsF l a) (bsF l b) = bsF l b by omega, show max (bsF l b) (bsF l c) = bsF l c by omega, show max (bsF l a) (bsF l c) = bsF l c by omega]
  have e : l.drop (bsF l b).toNat = (l.drop (bsF l a).toNat).drop ((bsF l b).toNat - (bsF l a).toNat) := by
    rw [List.drop_drop]; congr 1; omega
  rw [e, ← List.take_add]
  congr 1; omega
theorem rng_len {l : List Value} (hl : l.length ≤ 1000000) (a b : ByteArray) : (rngF l a b).length ≤ l.length := by
  unfold rngF
  rw [List.length_take, List.length_drop]; omega
/-- The next of a range. -/
theorem filter_next {l : List Value} {p : Value → Bool} {i : Nat} (hi : i < l.length) (hp : p l[i] = true) : ((l.take i).filter p).length < (l.filter p).length ∧ kP (l.filter p) ((l.take i).filter p).length = kP l i ∧ vP (l.filter p) ((l.take i).filter p).length = vP l i ∧ ((l.take (i + 1)).filter p).length = ((l.take i).filter p).length + 1 := by
  have hs : l.filter p = (l.take i).filter p ++ (l[i] :: (l.drop (i + 1)).filter p) := by
    conv => lhs; rw [← List.take_append_drop i l, List.drop_eq_getElem_cons hi]
    rw [List.filter_append, List.filter_cons, if_pos hp]
  have hlt : ((l.take i).filter p).length < (l.filter p).length := by rw [hs]; simp
  have hg : (l.filter p)[((l.take i).filter p).length]'hlt = l[i] := by
    have : (l.filter p)[((l.take i).filter p).length]? = some l[i] := by rw [hs, List.getElem?_append_right (Nat.le_refl _)]; simp
    rw [List.getElem?_eq_getElem hlt] at this
    exact Option.some.inj this
  refine ⟨hlt, by rw [kP_get hlt, kP_get hi, hg], by rw [vP_get hlt, vP_get hi, hg], ?_⟩
  rw [List.take_add_one, List.getElem?_eq_getElem hi, Option.toList_some, List.filter_append, List.length_append]
  simp [List.filter, hp]
theorem filter_skip {l : List Value} {p : Value → Bool} {i : Nat} (hi : i < l.length) (hp : p l[i] = false) : ((l.take (i + 1)).filter p).length = ((l.take i).filter p).length := by
  rw [List.take_add_one, List.getElem?_eq_getElem hi, Option.toList_some, List.filter_append, List.length_append]
  simp [List.filter, hp]
end Go.Proofs.Ytecdmdglkkeidaa
end
section
namespace Go.Proofs.Ytecdmdglkkeidaa
open Go.Abs Go
set_option maxRecDepth 100000 in
theorem within_vc (g : KvF) (n lo hi : Int) : runP std noCon 40 noL (withinP std g) 15 Try.f15 (n, lo, hi, ()) =
  ((((-9223372036854775808 : Int) ≤ (hi - lo)) ∧ ((hi - lo) ≤ (9223372036854775807 : Int))) ∧ ((((-9223372036854775808 : Int) ≤ ((hi - lo) + (1 : Int))) ∧ (((hi - lo) + (1 : Int)) ≤ (9223372036854775807 : Int))) ∧ (((0 : Int) < ((hi - lo) + (1 : Int))) ∧ ((((decide ((std.rem n ((hi - lo) + (1 : Int))) < (0 : Int))) = true) → ((((-9223372036854775808 : Int) ≤ ((std.rem n ((hi - lo) + (1 : Int))) + hi)) ∧ (((std.rem n ((hi - lo) + (1 : Int))) + hi) ≤ (9223372036854775807 : Int))) ∧ ((((-9223372036854775808 : Int) ≤ (((std.rem n ((hi - lo) + (1 : Int))) + hi) - lo)) ∧ ((((std.rem n ((hi - lo) + (1 : Int))) + hi) - lo) ≤ (9223372036854775807 : Int))) ∧ ((((-9223372036854775808 : Int) ≤ ((((std.rem n ((hi - lo) + (1 : Int))) + hi) - lo) + (1 : Int))) ∧ (((((std.rem n ((hi - lo) + (1 : Int))) + hi) - lo) + (1 : Int)) ≤ (9223372036854775807 : Int))) ∧ ((((-9223372036854775808 : Int) ≤ (lo + ((((std.rem n ((hi - lo) + (1 : Int))) + hi) - lo) + (1 : Int)))) ∧ ((lo + ((((std.rem n ((hi - lo) + (1 : Int))) + hi) - lo) + (1 : Int))) ≤ (9223372036854775807 : Int))) ∧ ([(Value.int IntKind.i64 (lo + ((((std.rem n ((hi - lo) + (1 : Int))) + hi) - lo) + (1 : Int))))] = [(Value.int IntKind.i64 (g.wi n lo hi))])))))) ∧ (((decide ((std.rem n ((hi - lo) + (1 : Int))) < (0 : Int))) = false) → ((((-9223372036854775808 : Int) ≤ (lo + (std.rem n ((hi - lo) + (1 : Int))))) ∧ ((lo + (std.rem n ((hi - lo) + (1 : Int)))) ≤ (9223372036854775807 : Int))) ∧ ([(Value.int IntKind.i64 (lo + (std.rem n ((hi - lo) + (1 : Int)))))] = [(Value.int IntKind.i64 (g.wi n lo hi))]))))))) := by kernel_rfl
def order_vc_L1 (g : KvF) (xs : List Value) (n : Int) (G : OrC → Prop) (w : OrC → Nat) (d17 : OrB) : Prop :=
  (∃ (d21 : OrC), (([(Filler.val (Value.int IntKind.i64 n)), (Filler.dl (g.pairs xs)), (Filler.dl (d21.x)), (Filler.dl (d21.y)), (Filler.dl (d21.f)), (Filler.val (Value.int IntKind.i64 (d21.i)))] = [(Filler.val (Value.int IntKind.i64 n)), (Filler.dl (g.pairs xs)), (Filler.dl (d17.x)), (Filler.dl (g.set (d17.x) (ByteArray.mk (Array.mk [(109 : UInt8)])) (ByteArray.mk (Array.mk [])))), (Filler.dl []), (Filler.val (Value.int IntKind.i64 (0 : Int)))]) ∧ ((G d21) ∧ (∀ (d22 : OrC), ((G d22) → ((((decide ((d22.i) < (32 : Int))) = true) → ((((0 : Int) < (26 : Int)) ∧ (((-9223372036854775808 : Int) ≤ (d22.i)) ∧ ((d22.i) ≤ (9223372036854775807 : Int)))) ∧ ((((-9223372036854775808 : Int) ≤ ((97 : Int) + (std.quo (d22.i) (26 : Int)))) ∧ (((97 : Int) + (std.quo (d22.i) (26 : Int))) ≤ (9223372036854775807 : Int))) ∧ (((0 : Int) < (26 : Int)) ∧ ((((-9223372036854775808 : Int) ≤ ((97 : Int) + (std.rem (d22.i) (26 : Int)))) ∧ (((97 : Int) + (std.rem (d22.i) (26 : Int))) ≤ (9223372036854775807 : Int))) ∧ ((((std.slen (ByteArray.mk (Array.mk [(107 : UInt8)]))) + (std.slen (std.sof (std.ints [(Value.int IntKind.u8 (std.wrap IntKind.u8 ((97 : Int) + (std.quo (d22.i) (26 : Int))))), (Value.int IntKind.u8 (std.wrap IntKind.u8 ((97 : Int) + (std.rem (d22.i) (26 : Int)))))])))) ≤ 9223372036854775807) ∧ (((List.length (d22.f)) ≤ 1000000) ∧ ((((g.setok (d22.f) ((ByteArray.mk (Array.mk [(107 : UInt8)])) ++ (std.sof (std.ints [(Value.int IntKind.u8 (std.wrap IntKind.u8 ((97 : Int) + (std.quo (d22.i) (26 : Int))))), (Value.int IntKind.u8 (std.wrap IntKind.u8 ((97 : Int) + (std.rem (d22.i) (26 : Int)))))]))) (ByteArray.mk (Array.mk []))) = true) → ((((decide ((d22.i) < (30 : Int))) = true) → ((((-9223372036854775808 : Int) ≤ ((d22.i) + (1 : Int))) ∧ (((d22.i) + (1 : Int)) ≤ (9223372036854775807 : Int))) ∧ (∃ (d27 : OrC), (([(Filler.val (Value.int IntKind.i64 n)), (Filler.dl (g.pairs xs)), (Filler.dl (d27.x)), (Filler.dl (d27.y)), (Filler.dl (d27.f)), (Filler.val (Value.int IntKind.i64 (d27.i)))] = [(Filler.val (Value.int IntKind.i64 n)), (Filler.dl (g.pairs xs)), (Filler.dl (d22.x)), (Filler.dl (d22.y)), (Filler.dl (g.set (d22.f) ((ByteArray.mk (Array.mk [(107 : UInt8)])) ++ (std.sof (std.ints [(Value.int IntKind.u8 (std.wrap IntKind.u8 ((97 : Int) + (std.quo (d22.i) (26 : Int))))), (Value.int IntKind.u8 (std.wrap IntKind.u8 ((97 : Int) + (std.rem (d22.i) (26 : Int)))))]))) (ByteArray.mk (Array.mk [])))), (Filler.val (Value.int IntKind.i64 ((d22.i) + (1 : Int))))]) ∧ ((Nat.le (Nat.succ (w d27)) (w d22)) ∧ (G d27)))))) ∧ (((decide ((d22.i) < (30 : Int))) = false) → ([(Value.bool false)] = [(Value.bool true)])))) ∧ (((g.setok (d22.f) ((ByteArray.mk (Array.mk [(107 : UInt8)])) ++ (std.sof (std.ints [(Value.int IntKind.u8 (std.wrap IntKind.u8 ((97 : Int) + (std.quo (d22.i) (26 : Int))))), (Value.int IntKind.u8 (std.wrap IntKind.u8 ((97 : Int) + (std.rem (d22.i) (26 : Int)))))]))) (ByteArray.mk (Array.mk []))) = false) → ((((decide ((d22.i) < (30 : Int))) = true) → ([(Value.bool false)] = [(Value.bool true)])) ∧ (((decide ((d22.i) < (30 : Int))) = false) → ((((-9223372036854775808 : Int) ≤ ((d22.i) + (1 : Int))) ∧ (((d22.i) + (1 : Int)) ≤ (9223372036854775807 : Int))) ∧ (∃ (d27 : OrC), (([(Filler.val (Value.int IntKind.i64 n)), (Filler.dl (g.pairs xs)), (Filler.dl (d27.x)), (Filler.dl (d27.y)), (Filler.dl (d27.f)), (Filler.val (Value.int IntKind.i64 (d27.i)))] = [(Filler.val (Value.int IntKind.i64 n)), (Filler.dl (g.pairs xs)), (Filler.dl (d22.x)), (Filler.dl (d22.y)), (Filler.dl (g.set (d22.f) ((ByteArray.mk (Array.mk [(107 : UInt8)])) ++ (std.sof (std.ints [(Value.int IntKind.u8 (std.wrap IntKind.u8 ((97 : Int) + (std.quo (d22.i) (26 : Int))))), (Value.int IntKind.u8 (std.wrap IntKind.u8 ((97 : Int) + (std.rem (d22.i) (26 : Int)))))]))) (ByteArray.mk (Array.mk [])))), (Filler.val (Value.int IntKind.i64 ((d22.i) + (1 : Int))))]) ∧ ((Nat.le (Nat.succ (w d27)) (w d22)) ∧ (G d27)))))))))))))))) ∧ (((decide ((d22.i) < (32 : Int))) = false) → ((((!(((List.length (d22.f)) : Int) == (30 : Int))) = true) → ([(Value.bool false)] = [(Value.bool true)])) ∧ (((!(((List.length (d22.f)) : Int) == (30 : Int))) = false) → ((((-9223372036854775808 : Int) ≤ (((List.length (d22.f)) : Int) - (1 : Int))) ∧ ((((List.length (d22.f)) : Int) - (1 : Int)) ≤ (9223372036854775807 : Int))) ∧ (((((-9223372036854775808 : Int) ≤ n) ∧ (n ≤ (9223372036854775807 : Int))) ∧ (((-1000000000000 : Int) ≤ (0 : Int)) ∧ (((0 : Int) ≤ (((List.length (d22.f)) : Int) - (1 : Int))) ∧ ((((List.length (d22.f)) : Int) - (1 : Int)) ≤ (2000000000000 : Int))))) ∧ ((((0 : Int) ≤ (g.wi n (0 : Int) (((List.length (d22.f)) : Int) - (1 : Int)))) ∧ ((g.wi n (0 : Int) (((List.length (d22.f)) : Int) - (1 : Int))) < ((List.length (d22.f)) : Int))) ∧ (((List.length (d22.f)) ≤ 1000000) ∧ ((((g.setok (d22.f) (kP (d22.f) (Int.toNat (g.wi n (0 : Int) (((List.length (d22.f)) : Int) - (1 : Int))))) (ByteArray.mk (Array.mk [(110 : UInt8), (101 : UInt8), (119 : UInt8)]))) = true) → (((List.length (d22.x)) ≤ 1000000) ∧ ((((g.same (d22.x) (g.pairs xs)) = true) → (((List.length (d22.y)) ≤ 1000000) ∧ (((List.length (g.del (d22.y) (ByteArray.mk (Array.mk [(109 : UInt8)])))) ≤ 1000000) ∧ ((((g.same (g.del (d22.y) (ByteArray.mk (Array.mk [(109 : UInt8)]))) (g.pairs xs)) = true) → (((((((List.length (g.set (d22.f) (kP (d22.f) (Int.toNat (g.wi n (0 : Int) (((List.length (d22.f)) : Int) - (1 : Int))))) (ByteArray.mk (Array.mk [(110 : UInt8), (101 : UInt8), (119 : UInt8)])))) : Nat) : Int) == ((List.length (d22.f)) : Int)) = true) → (((List.length (d22.f)) ≤ 1000000) ∧ ((((g.right (d22.f)) = true) → ([(Value.bool true)] = [(Value.bool true)])) ∧ (((g.right (d22.f)) = false) → ([(Value.bool false)] = [(Value.bool true)]))))) ∧ ((((((List.length (g.set (d22.f) (kP (d22.f) (Int.toNat (g.wi n (0 : Int) (((List.length (d22.f)) : Int) - (1 : Int))))) (ByteArray.mk (Array.mk [(110 : UInt8), (101 : UInt8), (119 : UInt8)])))) : Nat) : Int) == ((List.length (d22.f)) : Int)) = false) → ([(Value.bool false)] = [(Value.bool true)])))) ∧ (((g.same (g.del (d22.y) (ByteArray.mk (Array.mk [(109 : UInt8)]))) (g.pairs xs)) = false) → ([(Value.bool false)] = [(Value.bool true)])))))) ∧ (((g.same (d22.x) (g.pairs xs)) = false) → ([(Value.bool false)] = [(Value.bool true)]))))) ∧ (((g.setok (d22.f) (kP (d22.f) (Int.toNat (g.wi n (0 : Int) (((List.length (d22.f)) : Int) - (1 : Int))))) (ByteArray.mk (Array.mk [(110 : UInt8), (101 : UInt8), (119 : UInt8)]))) = false) → (((List.length (d22.x)) ≤ 1000000) ∧ ((((g.same (d22.x) (g.pairs xs)) = true) → (((List.length (d22.y)) ≤ 1000000) ∧ (((List.length (g.del (d22.y) (ByteArray.mk (Array.mk [(109 : UInt8)])))) ≤ 1000000) ∧ ((((g.same (g.del (d22.y) (ByteArray.mk (Array.mk [(109 : UInt8)]))) (g.pairs xs)) = true) → ([(Value.bool false)] = [(Value.bool true)])) ∧ (((g.same (g.del (d22.y) (ByteArray.mk (Array.mk [(109 : UInt8)]))) (g.pairs xs)) = false) → ([(Value.bool false)] = [(Value.bool true)])))))) ∧ (((g.same (d22.x) (g.pairs xs)) = false) → ([(Value.bool false)] = [(Value.bool true)])))))))))))))))))))
def order_vc_L2 (g : KvF) (xs : List Value) (n : Int) (J : OrB → Prop) (q : OrB → Nat) (G : OrC → Prop) (w : OrC → Nat) (d13 : OrA) : Prop :=
  (∃ (d16 : OrB), (([(Filler.val (Value.int IntKind.i64 n)), (Filler.dl (g.pairs xs)), (Filler.dl (d16.x)), (Filler.dl (d16.tu)), (Filler.val (Value.int IntKind.i64 (d16.n))), (Filler.val (Value.int IntKind.i64 (d16.i)))] = [(Filler.val (Value.int IntKind.i64 n)), (Filler.dl (g.pairs xs)), (Filler.dl []), (Filler.dl (d13.tu)), (Filler.val (Value.int IntKind.i64 ((List.length (d13.tu)) : Int))), (Filler.val (Value.int IntKind.i64 (0 : Int)))]) ∧ ((J d16) ∧ (∀ (d17 : OrB), ((J d17) → ((((decide ((d17.i) < (d17.n))) = true) → ((((0 : Int) ≤ (d17.i)) ∧ ((d17.i) < ((List.length (d17.tu)) : Int))) ∧ (((List.length (d17.x)) ≤ 1000000) ∧ ((((g.setok (d17.x) (kP (d17.tu) (Int.toNat (d17.i))) (ByteArray.mk (Array.mk [(110 : UInt8), (111 : UInt8)]))) = true) → (((List.length (g.set (d17.x) (kP (d17.tu) (Int.toNat (d17.i))) (ByteArray.mk (Array.mk [(110 : UInt8), (111 : UInt8)])))) ≤ 1000000) ∧ ((((g.setok (g.set (d17.x) (kP (d17.tu) (Int.toNat (d17.i))) (ByteArray.mk (Array.mk [(110 : UInt8), (111 : UInt8)]))) (kP (d17.tu) (Int.toNat (d17.i))) (vP (d17.tu) (Int.toNat (d17.i)))) = true) → ((((-9223372036854775808 : Int) ≤ ((d17.i) + (1 : Int))) ∧ (((d17.i) + (1 : Int)) ≤ (9223372036854775807 : Int))) ∧ (∃ (d22 : OrB), (([(Filler.val (Value.int IntKind.i64 n)), (Filler.dl (g.pairs xs)), (Filler.dl (d22.x)), (Filler.dl (d22.tu)), (Filler.val (Value.int IntKind.i64 (d22.n))), (Filler.val (Value.int IntKind.i64 (d22.i)))] = [(Filler.val (Value.int IntKind.i64 n)), (Filler.dl (g.pairs xs)), (Filler.dl (g.set (g.set (d17.x) (kP (d17.tu) (Int.toNat (d17.i))) (ByteArray.mk (Array.mk [(110 : UInt8), (111 : UInt8)]))) (kP (d17.tu) (Int.toNat (d17.i))) (vP (d17.tu) (Int.toNat (d17.i))))), (Filler.dl (d17.tu)), (Filler.val (Value.int IntKind.i64 (d17.n))), (Filler.val (Value.int IntKind.i64 ((d17.i) + (1 : Int))))]) ∧ ((Nat.le (Nat.succ (q d22)) (q d17)) ∧ (J d22)))))) ∧ (((g.setok (g.set (d17.x) (kP (d17.tu) (Int.toNat (d17.i))) (ByteArray.mk (Array.mk [(110 : UInt8), (111 : UInt8)]))) (kP (d17.tu) (Int.toNat (d17.i))) (vP (d17.tu) (Int.toNat (d17.i)))) = false) → ((((-9223372036854775808 : Int) ≤ ((d17.i) + (1 : Int))) ∧ (((d17.i) + (1 : Int)) ≤ (9223372036854775807 : Int))) ∧ (∃ (d22 : OrB), (([(Filler.val (Value.int IntKind.i64 n)), (Filler.dl (g.pairs xs)), (Filler.dl (d22.x)), (Filler.dl (d22.tu)), (Filler.val (Value.int IntKind.i64 (d22.n))), (Filler.val (Value.int IntKind.i64 (d22.i)))] = [(Filler.val (Value.int IntKind.i64 n)), (Filler.dl (g.pairs xs)), (Filler.dl (g.set (g.set (d17.x) (kP (d17.tu) (Int.toNat (d17.i))) (ByteArray.mk (Array.mk [(110 : UInt8), (111 : UInt8)]))) (kP (d17.tu) (Int.toNat (d17.i))) (vP (d17.tu) (Int.toNat (d17.i))))), (Filler.dl (d17.tu)), (Filler.val (Value.int IntKind.i64 (d17.n))), (Filler.val (Value.int IntKind.i64 ((d17.i) + (1 : Int))))]) ∧ ((Nat.le (Nat.succ (q d22)) (q d17)) ∧ (J d22))))))))) ∧ (((g.setok (d17.x) (kP (d17.tu) (Int.toNat (d17.i))) (ByteArray.mk (Array.mk [(110 : UInt8), (111 : UInt8)]))) = false) → (((List.length (g.set (d17.x) (kP (d17.tu) (Int.toNat (d17.i))) (ByteArray.mk (Array.mk [(110 : UInt8), (111 : UInt8)])))) ≤ 1000000) ∧ ((((g.setok (g.set (d17.x) (kP (d17.tu) (Int.toNat (d17.i))) (ByteArray.mk (Array.mk [(110 : UInt8), (111 : UInt8)]))) (kP (d17.tu) (Int.toNat (d17.i))) (vP (d17.tu) (Int.toNat (d17.i)))) = true) → ((((-9223372036854775808 : Int) ≤ ((d17.i) + (1 : Int))) ∧ (((d17.i) + (1 : Int)) ≤ (9223372036854775807 : Int))) ∧ (∃ (d22 : OrB), (([(Filler.val (Value.int IntKind.i64 n)), (Filler.dl (g.pairs xs)), (Filler.dl (d22.x)), (Filler.dl (d22.tu)), (Filler.val (Value.int IntKind.i64 (d22.n))), (Filler.val (Value.int IntKind.i64 (d22.i)))] = [(Filler.val (Value.int IntKind.i64 n)), (Filler.dl (g.pairs xs)), (Filler.dl (g.set (g.set (d17.x) (kP (d17.tu) (Int.toNat (d17.i))) (ByteArray.mk (Array.mk [(110 : UInt8), (111 : UInt8)]))) (kP (d17.tu) (Int.toNat (d17.i))) (vP (d17.tu) (Int.toNat (d17.i))))), (Filler.dl (d17.tu)), (Filler.val (Value.int IntKind.i64 (d17.n))), (Filler.val (Value.int IntKind.i64 ((d17.i) + (1 : Int))))]) ∧ ((Nat.le (Nat.succ (q d22)) (q d17)) ∧ (J d22)))))) ∧ (((g.setok (g.set (d17.x) (kP (d17.tu) (Int.toNat (d17.i))) (ByteArray.mk (Array.mk [(110 : UInt8), (111 : UInt8)]))) (kP (d17.tu) (Int.toNat (d17.i))) (vP (d17.tu) (Int.toNat (d17.i)))) = false) → ((((-9223372036854775808 : Int) ≤ ((d17.i) + (1 : Int))) ∧ (((d17.i) + (1 : Int)) ≤ (9223372036854775807 : Int))) ∧ (∃ (d22 : OrB), (([(Filler.val (Value.int IntKind.i64 n)), (Filler.dl (g.pairs xs)), (Filler.dl (d22.x)), (Filler.dl (d22.tu)), (Filler.val (Value.int IntKind.i64 (d22.n))), (Filler.val (Value.int IntKind.i64 (d22.i)))] = [(Filler.val (Value.int IntKind.i64 n)), (Filler.dl (g.pairs xs)), (Filler.dl (g.set (g.set (d17.x) (kP (d17.tu) (Int.toNat (d17.i))) (ByteArray.mk (Array.mk [(110 : UInt8), (111 : UInt8)]))) (kP (d17.tu) (Int.toNat (d17.i))) (vP (d17.tu) (Int.toNat (d17.i))))), (Filler.dl (d17.tu)), (Filler.val (Value.int IntKind.i64 (d17.n))), (Filler.val (Value.int IntKind.i64 ((d17.i) + (1 : Int))))]) ∧ ((Nat.le (Nat.succ (q d22)) (q d17)) ∧ (J d22))))))))))))) ∧ (((decide ((d17.i) < (d17.n))) = false) → (((List.length (d17.x)) ≤ 1000000) ∧ ((((g.setok (d17.x) (ByteArray.mk (Array.mk [(109 : UInt8)])) (ByteArray.mk (Array.mk []))) = true) → (order_vc_L1 g xs n G w d17)) ∧ (((g.setok (d17.x) (ByteArray.mk (Array.mk [(109 : UInt8)])) (ByteArray.mk (Array.mk []))) = false) → (order_vc_L1 g xs n G w d17)))))))))))
def order_vc_L3 (g : KvF) (xs : List Value) (os : List Value) (n : Int) (I : OrA → Prop) (m : OrA → Nat) (J : OrB → Prop) (q : OrB → Nat) (G : OrC → Prop) (w : OrC → Nat) : Prop :=
  (∃ (d12 : OrA), (([(Filler.dl os), (Filler.val (Value.int IntKind.i64 n)), (Filler.dl (g.pairs xs)), (Filler.dl (d12.tu)), (Filler.val (Value.int IntKind.i64 (d12.i)))] = [(Filler.dl os), (Filler.val (Value.int IntKind.i64 n)), (Filler.dl (g.pairs xs)), (Filler.dl (g.pairs xs)), (Filler.val (Value.int IntKind.i64 (0 : Int)))]) ∧ ((I d12) ∧ (∀ (d13 : OrA), ((I d13) → ((((decide ((d13.i) < ((List.length os) : Int))) = true) → ((((decide ((1 : Int) < ((List.length (d13.tu)) : Int))) = true) → ((((0 : Int) ≤ (d13.i)) ∧ ((d13.i) < ((List.length os) : Int))) ∧ ((((-9223372036854775808 : Int) ≤ (((List.length (d13.tu)) : Int) - (1 : Int))) ∧ ((((List.length (d13.tu)) : Int) - (1 : Int)) ≤ (9223372036854775807 : Int))) ∧ (((((-9223372036854775808 : Int) ≤ (eI os (Int.toNat (d13.i)))) ∧ ((eI os (Int.toNat (d13.i))) ≤ (9223372036854775807 : Int))) ∧ (((-1000000000000 : Int) ≤ (0 : Int)) ∧ (((0 : Int) ≤ (((List.length (d13.tu)) : Int) - (1 : Int))) ∧ ((((List.length (d13.tu)) : Int) - (1 : Int)) ≤ (2000000000000 : Int))))) ∧ ((((0 : Int) ≤ (g.wi (eI os (Int.toNat (d13.i))) (0 : Int) (((List.length (d13.tu)) : Int) - (1 : Int)))) ∧ ((g.wi (eI os (Int.toNat (d13.i))) (0 : Int) (((List.length (d13.tu)) : Int) - (1 : Int))) < ((List.length (d13.tu)) : Int))) ∧ ((((List.length [(Value.agg (Array.mk [(Value.string (kP (d13.tu) (Int.toNat (g.wi (eI os (Int.toNat (d13.i))) (0 : Int) (((List.length (d13.tu)) : Int) - (1 : Int)))))), (Value.string (vP (d13.tu) (Int.toNat (g.wi (eI os (Int.toNat (d13.i))) (0 : Int) (((List.length (d13.tu)) : Int) - (1 : Int))))))]))]) * 32) ≤ 140737488355328) ∧ (((((0 : Int) ≤ (g.wi (eI os (Int.toNat (d13.i))) (0 : Int) (((List.length (d13.tu)) : Int) - (1 : Int)))) ∧ ((g.wi (eI os (Int.toNat (d13.i))) (0 : Int) (((List.length (d13.tu)) : Int) - (1 : Int))) ≤ ((List.length (d13.tu)) : Int))) ∧ True) ∧ ((((List.length ([(Value.agg (Array.mk [(Value.string (kP (d13.tu) (Int.toNat (g.wi (eI os (Int.toNat (d13.i))) (0 : Int) (((List.length (d13.tu)) : Int) - (1 : Int)))))), (Value.string (vP (d13.tu) (Int.toNat (g.wi (eI os (Int.toNat (d13.i))) (0 : Int) (((List.length (d13.tu)) : Int) - (1 : Int))))))]))] ++ (List.take ((Int.toNat (g.wi (eI os (Int.toNat (d13.i))) (0 : Int) (((List.length (d13.tu)) : Int) - (1 : Int)))) - 0) (List.drop 0 (d13.tu))))) * 32) ≤ 140737488355328) ∧ ((((-9223372036854775808 : Int) ≤ ((g.wi (eI os (Int.toNat (d13.i))) (0 : Int) (((List.length (d13.tu)) : Int) - (1 : Int))) + (1 : Int))) ∧ (((g.wi (eI os (Int.toNat (d13.i))) (0 : Int) (((List.length (d13.tu)) : Int) - (1 : Int))) + (1 : Int)) ≤ (9223372036854775807 : Int))) ∧ ((True ∧ (((0 : Int) ≤ ((g.wi (eI os (Int.toNat (d13.i))) (0 : Int) (((List.length (d13.tu)) : Int) - (1 : Int))) + (1 : Int))) ∧ (((g.wi (eI os (Int.toNat (d13.i))) (0 : Int) (((List.length (d13.tu)) : Int) - (1 : Int))) + (1 : Int)) ≤ ((List.length (d13.tu)) : Int)))) ∧ ((((List.length (([(Value.agg (Array.mk [(Value.string (kP (d13.tu) (Int.toNat (g.wi (eI os (Int.toNat (d13.i))) (0 : Int) (((List.length (d13.tu)) : Int) - (1 : Int)))))), (Value.string (vP (d13.tu) (Int.toNat (g.wi (eI os (Int.toNat (d13.i))) (0 : Int) (((List.length (d13.tu)) : Int) - (1 : Int))))))]))] ++ (List.take ((Int.toNat (g.wi (eI os (Int.toNat (d13.i))) (0 : Int) (((List.length (d13.tu)) : Int) - (1 : Int)))) - 0) (List.drop 0 (d13.tu)))) ++ (List.take ((List.length (d13.tu)) - (Int.toNat ((g.wi (eI os (Int.toNat (d13.i))) (0 : Int) (((List.length (d13.tu)) : Int) - (1 : Int))) + (1 : Int)))) (List.drop (Int.toNat ((g.wi (eI os (Int.toNat (d13.i))) (0 : Int) (((List.length (d13.tu)) : Int) - (1 : Int))) + (1 : Int))) (d13.tu))))) * 32) ≤ 140737488355328) ∧ ((((-9223372036854775808 : Int) ≤ ((d13.i) + (1 : Int))) ∧ (((d13.i) + (1 : Int)) ≤ (9223372036854775807 : Int))) ∧ (∃ (d17 : OrA), (([(Filler.dl os), (Filler.val (Value.int IntKind.i64 n)), (Filler.dl (g.pairs xs)), (Filler.dl (d17.tu)), (Filler.val (Value.int IntKind.i64 (d17.i)))] = [(Filler.dl os), (Filler.val (Value.int IntKind.i64 n)), (Filler.dl (g.pairs xs)), (Filler.dl (([(Value.agg (Array.mk [(Value.string (kP (d13.tu) (Int.toNat (g.wi (eI os (Int.toNat (d13.i))) (0 : Int) (((List.length (d13.tu)) : Int) - (1 : Int)))))), (Value.string (vP (d13.tu) (Int.toNat (g.wi (eI os (Int.toNat (d13.i))) (0 : Int) (((List.length (d13.tu)) : Int) - (1 : Int))))))]))] ++ (List.take ((Int.toNat (g.wi (eI os (Int.toNat (d13.i))) (0 : Int) (((List.length (d13.tu)) : Int) - (1 : Int)))) - 0) (List.drop 0 (d13.tu)))) ++ (List.take ((List.length (d13.tu)) - (Int.toNat ((g.wi (eI os (Int.toNat (d13.i))) (0 : Int) (((List.length (d13.tu)) : Int) - (1 : Int))) + (1 : Int)))) (List.drop (Int.toNat ((g.wi (eI os (Int.toNat (d13.i))) (0 : Int) (((List.length (d13.tu)) : Int) - (1 : Int))) + (1 : Int))) (d13.tu))))), (Filler.val (Value.int IntKind.i64 ((d13.i) + (1 : Int))))]) ∧ ((Nat.le (Nat.succ (m d17)) (m d13)) ∧ (I d17)))))))))))))))) ∧ (((decide ((1 : Int) < ((List.length (d13.tu)) : Int))) = false) → (order_vc_L2 g xs n J q G w d13)))) ∧ (((decide ((d13.i) < ((List.length os) : Int))) = false) → (order_vc_L2 g xs n J q G w d13))))))))
end Go.Proofs.Ytecdmdglkkeidaa
end
section
namespace Go.Proofs.Ytecdmdglkkeidaa
open Go.RowKit Go.Abs Go
/-- Ordered rows of the same pairs are the same. -/
theorem ord_ext : ∀ {l m : List Value}, Ord l → Ord m → (∀ x, x ∈ l ↔ x ∈ m) → l = m
  | [], [], _, _, _ => rfl
  | [], b :: m, _, _, h => by have := (h b).2 (List.mem_cons_self ..); cases this
  | a :: l, [], _, _, h => by have := (h a).1 (List.mem_cons_self ..); cases this
  | a :: l, b :: m, h1, h2, h => by
    obtain ⟨a1, o1⟩ := List.pairwise_cons.1 h1
    obtain ⟨a2, o2⟩ := List.pairwise_cons.1 h2
    have e : a = b := by
      rcases List.mem_cons.1 ((h a).1 (List.mem_cons_self ..)) with e | ha
      · exact e
      · rcases List.mem_cons.1 ((h b).2 (List.mem_cons_self ..)) with e | hb
        · exact e.symm
        · have := lt_trans (a1 b hb) (a2 a ha)
          rw [lt_irrefl] at this; cases this
    subst e
    rw [ord_ext o1 o2 fun x => ⟨fun hx => ?_, fun hx => ?_⟩]
    · rcases List.mem_cons.1 ((h x).1 (List.mem_cons_of_mem _ hx)) with e | hm
      · subst e; have := a1 x hx; rw [lt_irrefl] at this; cases this
      · exact hm
    · rcases List.mem_cons.1 ((h x).2 (List.mem_cons_of_mem _ hx)) with e | hm
      · subst e; have := a2 x hx; rw [lt_irrefl] at this; cases this
      · exact hm
/-- What is in a row that was set. -/
theorem rset_mem {l : List Value} (ho : Ord l) (k v : ByteArray) : (∀ y, y ∈ rsetF l k v ↔ y = prV k v ∨ y ∈ l ∧ keyV y ≠ k) ∧
    (((∃ x ∈ l, keyV x = k) ∧ (rsetF l k v).length = l.length ∧ fdF l k = true) ∨ ((∀ x ∈ l, keyV x ≠ k) ∧ (rsetF l k v).length = l.length + 1 ∧ fdF l k = false)) := by
  obtain ⟨r, hr, hle, h1, h2, h3⟩ := split_at k ho
  rw [fd_eq k ho]
  unfold rsetF putF
  rw [hr, Int.toNat_natCast]
  rw [hr, Int.toNat_natCast] at h2 h3
  have ne1 : ∀ x ∈ l.take r, keyV x ≠ k := fun x hx e => by have := h1 x hx; rw [e, lt_irrefl] at this; cases this
  have hl : ∀ y, y ∈ l ↔ y ∈ l.take r ∨ y ∈ l.drop r := fun y => by
    have := List.take_append_drop r l
    rw [← List.mem_append, this]
  cases hc : (decide ((r : Int) < (l.length : Int)) && eqB (kP l r) k) with
  | true =>
    obtain ⟨hlt, h4, h5⟩ := h3 hc
    have ne2 : ∀ x ∈ l.drop (r + 1), keyV x ≠ k := fun x hx e => by have := h5 x hx; rw [e, lt_irrefl] at this; cases this
    have hd : l.drop r = l[r] :: l.drop (r + 1) := List.drop_eq_getElem_cons hlt
    rw [if_pos rfl]
    refine ⟨fun y => ?_, .inl ⟨⟨l[r], List.getElem_mem hlt, h4⟩, ?_, rfl⟩⟩
    · rw [hl y, hd]
      simp only [List.mem_append, List.mem_cons, List.not_mem_nil, or_false]
      constructor
      · rintro ((h | h) | h)
        · exact .inr ⟨.inl h, ne1 y h⟩
        · exact .inl h
        · exact .inr ⟨.inr (.inr h), ne2 y h⟩
      · rintro (h | ⟨h | h | h, hk⟩)
        · exact .inl (.inr h)
        · exact .inl (.inl h)
        · rw [h] at hk; exact absurd h4 hk
        · exact .inr h
    · simp only [List.length_append, List.length_take, List.length_drop, List.length_cons, List.length_nil]; omega
  | false =>
    have ne2 : ∀ x ∈ l.drop r, keyV x ≠ k := fun x hx e => by have := h2 hc x hx; rw [e, lt_irrefl] at this; cases this
    rw [if_neg Bool.false_ne_true]
    refine ⟨fun y => ?_, .inr ⟨fun x hx => ?_, ?_, rfl⟩⟩
    · rw [hl y]
      simp only [List.mem_append, List.mem_cons, List.not_mem_nil, or_false]
      constructor
      · rintro ((h | h) | h)
        · exact .inr ⟨.inl h, ne1 y h⟩
        · exact .inl h
        · exact .inr ⟨.inr h, ne2 y h⟩
      · rintro (h | ⟨h | h, hk⟩)
        · exact .inl (.inr h)
        · exact .inl (.inl h)
        · exact .inr h
    · rcases (hl x).1 hx with h | h
      · exact ne1 x h
      · exact ne2 x h
    · simp only [List.length_append, List.length_take, List.length_drop, List.length_cons, List.length_nil]; omega
theorem set_mem {l : List Value} (h : RightL l) {k v : ByteArray} (hm : mayF k v = true) (hroom : l.length < 30 ∨ ∃ x ∈ l, keyV x = k) : RightL (setF l k v) ∧ (∀ y, y ∈ setF l k v ↔ y = prV k v ∨ y ∈ l ∧ keyV y ≠ k) ∧
    (((∃ x ∈ l, keyV x = k) ∧ (setF l k v).length = l.length) ∨ ((∀ x ∈ l, keyV x ≠ k) ∧ (setF l k v).length = l.length + 1)) := by
  have ho := ((right_iff l).1 h.1).2.1
  obtain ⟨h1, h2⟩ := rset_mem ho k v
  have hok : setokF l k v = true := by
    unfold setokF
    rw [hm, Bool.true_and, Bool.or_eq_true]
    rcases hroom with hr | ⟨x, hx, he⟩
    · right; rw [decide_eq_true_eq]; omega
    · left
      rcases h2 with ⟨_, _, h3⟩ | ⟨h3, _⟩
      · exact h3
      · exact absurd he (h3 x hx)
  obtain ⟨e, hr⟩ := set_rset h hok
  rw [e]
  exact ⟨hr, h1, h2.imp (fun h => ⟨h.1, h.2.1⟩) fun h => ⟨h.1, h.2.1⟩⟩
def mB : ByteArray := ⟨#[109]⟩
def noW : ByteArray := ⟨#[110, 111]⟩
def newW : ByteArray := ⟨#[110, 101, 119]⟩
/-- The pairs of a step of KvOrder's second loop. -/
theorem two_sets {l : List Value} (h : RightL l) {k v : ByteArray} (hm : mayF k v = true) (hroom : l.length < 30) (hn : ∀ x ∈ l, keyV x ≠ k) :
    RightL (setF (setF l k noW) k v) ∧ (setF l k noW).length ≤ 30 ∧ (setF (setF l k noW) k v).length = l.length + 1 ∧ ∀ y, y ∈ setF (setF l k noW) k v ↔ y ∈ l ∨ y = prV k v := by
  have hm1 : mayF k noW = true := by
    unfold mayF at hm ⊢
    simp only [Bool.and_eq_true] at hm ⊢
    exact ⟨hm.1, hm.2.1, rfl⟩
  obtain ⟨r1, m1, l1⟩ := set_mem h hm1 (.inl hroom)
  have hlen1 : (setF l k noW).length = l.length + 1 := by
    rcases l1 with ⟨⟨x, hx, he⟩, _⟩ | ⟨_, h2⟩
    · exact absurd he (hn x hx)
    · exact h2
  have hin : prV k noW ∈ setF l k noW := (m1 _).2 (.inl rfl)
  obtain ⟨r2, m2, l2⟩ := set_mem r1 hm (.inr ⟨_, hin, rfl⟩)
  refine ⟨r2, by omega, ?_, fun y => ?_⟩
  · rcases l2 with ⟨_, h2⟩ | ⟨h2, _⟩
    · omega
    · exact absurd rfl (h2 _ hin)
  · rw [m2 y, m1 y]
    constructor
    · rintro (h | ⟨h | h, hk⟩)
      · exact .inr h
      · rw [h] at hk; exact absurd rfl hk
      · exact .inl h.1
    · rintro (h | h)
      · exact .inr ⟨.inr ⟨h, hn y h⟩, hn y h⟩
      · exact .inl h
/-- Set and taken out: as if it had never been. -/
theorem set_del {l : List Value} (h : RightL l) (hroom : l.length < 30) (hn : ∀ x ∈ l, keyV x ≠ mB) : (setF l mB noB).length ≤ 30 ∧ (dropF (setF l mB noB) mB).length ≤ 30 ∧ dropF (setF l mB noB) mB = l := by
  obtain ⟨r1, m1, _⟩ := set_mem (k := mB) (v := noB) h rfl (.inl hroom)
  have ho := ((right_iff _).1 r1.1).2
  have e : dropF (setF l mB noB) mB = l := by
    rw [drop_rdel mB r1.2 ho.1, rdel_eq mB r1.2]
    refine ord_ext (ho.1.filter _) ((right_iff l).1 h.1).2.1 fun x => ?_
    rw [List.mem_filter, m1 x]
    constructor
    · rintro ⟨h1 | h1, h2⟩
      · rw [h1] at h2; cases h2
      · exact h1.1
    · intro hx
      refine ⟨.inr ⟨hx, hn x hx⟩, ?_⟩
      cases c : eqB (keyV x) mB with
      | false => rfl
      | true => exact absurd (eqB_iff.1 c) (hn x hx)
  exact ⟨ho.2, by rw [e]; omega, e⟩
/-- Thirty keys, and no more. -/
def keyN (i : Int) : ByteArray := ⟨#[107]⟩ ++ std.sof (std.ints [.int .u8 (std.wrap .u8 (97 + std.quo i 26)), .int .u8 (std.wrap .u8 (97 + std.rem i 26))])
def fullL : Nat → List Value
  | 0 => []
  | i + 1 => setF (fullL i) (keyN i) noB
theorem full_ok : ∀ i, i < 32 → setokF (fullL i) (keyN i) noB = decide (i < 30) ∧ (fullL i).length ≤ 30 ∧ std.slen (std.sof (std.ints [Value.int .u8 (std.wrap .u8 (97 + std.quo i 26)), Value.int .u8 (std.wrap .u8 (97 + std.rem i 26))])) ≤ 100 := by decide +kernel
theorem full_len : (fullL 32).length = 30 ∧ rightF mayF (fullL 32) = true := by decide +kernel
theorem full_new : ∀ k, k < 30 → setokF (fullL 32) (kP (fullL 32) k) newW = true ∧ (setF (fullL 32) (kP (fullL 32) k) newW).length = 30 := by decide +kernel
theorem pairs_keys (xs : List Value) : (pairsF xs).length ≤ 12 ∧ ∀ x ∈ pairsF xs, keyV x ≠ mB := by
  refine ⟨outL_len _ 12, fun x hx => ?_⟩
  obtain ⟨j, s, h1, rfl, _⟩ := out_mem (es_vals xs _) hx
  have : ∀ j, j < 12 → eqB (eS keysV j) mB = false := by decide +kernel
  intro e
  have h2 := this j h1
  rw [show eS keysV j = mB from e, eqB_iff.2 rfl] at h2
  cases h2
/-- A row turned. -/
theorem turn_perm {l : List Value} (hw : Wf l) {k : Nat} (hk : k < l.length) : (([prV (kP l k) (vP l k)] ++ List.take (k - 0) (List.drop 0 l)) ++ List.take (l.length - (k + 1)) (List.drop (k + 1) l)).Perm l := by
  have e : prV (kP l k) (vP l k) = l[k] := by rw [kP_get hk, vP_get hk]; exact (hw _ (List.getElem_mem hk)).symm
  rw [e, Nat.sub_zero, List.drop_zero, take_rest]
  have h2 : l = l.take k ++ l[k] :: l.drop (k + 1) := by
    rw [← List.drop_eq_getElem_cons hk, List.take_append_drop]
  conv => rhs; rw [h2]
  exact (List.perm_middle (a := l[k]) (l₁ := l.take k) (l₂ := l.drop (k + 1))).symm
end Go.Proofs.Ytecdmdglkkeidaa
end
section
namespace Go.Proofs.Ytecdmdglkkeidaa
open Go.RowKit Go.Abs Go
theorem len_app (a b : ByteArray) : lenB (a ++ b) = lenB a + lenB b := by
  unfold lenB
  rw [ByteArray.data_append, Array.toList_append, List.length_append]
theorem keyS_len (s : ByteArray) : lenB (keyS s) = 2 + lenB s := len_app sB s
theorem keyS_list (s : ByteArray) : (keyS s).data.toList = 115 :: 47 :: s.data.toList := by
  unfold keyS
  rw [ByteArray.data_append, Array.toList_append]; rfl
theorem keyS_is (s : ByteArray) : isF (keyS s) = true := by
  unfold isF
  rw [keyS_len, decide_eq_true (by omega), Bool.true_and]
  have : std.ssub (keyS s) 0 2 = sB := by
    show (⟨(((keyS s).data.toList.drop 0).take (2 - 0)).toArray⟩ : ByteArray) = sB
    rw [keyS_list]; rfl
  rw [this]; exact eqB_iff.2 rfl
theorem keyS_ne (s : ByteArray) : eqB (keyS s) noB = false := by
  unfold eqB noB
  rw [keyS_list]; rfl
theorem bok_bad {l : List Value} {x : Value} (hx : x ∈ l) (h1 : isF (keyV x) = true) (h2 : rokF (valV x) = false) : bokF l = false := by
  obtain ⟨i, hi, rfl⟩ := List.getElem_of_mem hx
  have : bkSumL l (i + 1) = none := by
    unfold bkSumL
    split
    · rfl
    · rw [kP_get hi, vP_get hi, h1, if_pos rfl, h2, if_neg Bool.false_ne_true]
  unfold bokF
  rw [sum_none hi this]
theorem right_vals {l : List Value} (h : RightL l) : l.length ≤ 30 ∧ ∀ i, i < l.length → lenB (vP l i) ≤ 24 := by
  have hr := (right_iff l).1 h.1
  refine ⟨hr.2.2, fun i hi => ?_⟩
  have := hr.1 _ (List.getElem_mem hi)
  unfold mayF at this
  simp only [Bool.and_eq_true, decide_eq_true_eq] at this
  rw [vP_get hi]; omega
theorem setok_room {xs : List Value} {K v : ByteArray} (hm : mayF K v = true) : setokF xs K v = (fdF xs K || decide ((xs.length : Int) < 30)) := by
  unfold setokF; rw [hm, Bool.true_and]
theorem fd_mem {xs : List Value} (hR : RightL xs) (K : ByteArray) (h : fdF xs K = true) : ∃ x ∈ xs, keyV x = K := by
  have ho := ((right_iff xs).1 hR.1).2.1
  obtain ⟨_, h2⟩ := rset_mem ho K noB
  rcases h2 with ⟨h, _⟩ | ⟨_, _, h3⟩
  · exact h
  · rw [h] at h3; cases h3
theorem set_room {xs : List Value} (hR : RightL xs) {K v : ByteArray} (hm : mayF K v = true) (hr : (fdF xs K || decide ((xs.length : Int) < 30)) = true) : RightL (setF xs K v) ∧ prV K v ∈ setF xs K v := by
  obtain ⟨r1, m1, _⟩ := set_mem hR hm (by
    rw [Bool.or_eq_true, decide_eq_true_eq] at hr
    rcases hr with h | h
    · exact .inr (fd_mem hR K h)
    · exact .inl (by omega))
  exact ⟨r1, (m1 _).2 (.inl rfl)⟩
structure KeyOk (K : ByteArray) : Prop where
  ne : eqB K noB = false
  len : lenB K ≤ 16
  is : isF K = true
theorem may_key {K v : ByteArray} (hK : KeyOk K) (hv : lenB v ≤ 24) : mayF K v = true := by
  unfold mayF
  have := hK.len
  rw [hK.ne, decide_eq_true (by omega), decide_eq_true (by omega)]; rfl
theorem rcd_len (t r : Int) : lenB (rcdF t r) ≤ 24 := by
  unfold rcdF
  split
  · have := recB_len t r; omega
  · show 0 ≤ 24; omega
theorem impl_tail {xs : List Value} {K : ByteArray} (hR : RightL xs) (hK : KeyOk K) (t r : Int) {G : List Value} (hG : [dsl zP (stkTail xs K t r).1, Value.int .i64 (stkTail xs K t r).2] = G) :
    xs.length ≤ 1000000 ∧ ((kvF.setok xs K (stF.rcd t r) = true → ((kvF.set xs K (stF.rcd t r)).length ≤ 1000000 ∧ ∀ i, i < (kvF.set xs K (stF.rcd t r)).length → std.slen (vP (kvF.set xs K (stF.rcd t r)) i) ≤ 4000000) ∧
      ((stF.bok (kvF.set xs K (stF.rcd t r)) = true → [dsl zP (kvF.set xs K (stF.rcd t r)), Value.int .i64 0] = G) ∧ (stF.bok (kvF.set xs K (stF.rcd t r)) = false → [dsl zP xs, Value.int .i64 11] = G))) ∧ (kvF.setok xs K (stF.rcd t r) = false → [dsl zP xs, Value.int .i64 7] = G)) := by
  subst hG
  have hx := right_vals hR
  have hm := may_key hK (rcd_len t r)
  have e : kvF.setok xs K (stF.rcd t r) = (fdF xs K || decide ((xs.length : Int) < 30)) := setok_room hm
  rw [e]
  unfold stkTail
  refine ⟨by omega, fun h => ?_, fun h => ?_⟩
  · obtain ⟨h1, h2⟩ := set_room hR hm h
    have hv := right_vals h1
    rw [if_pos h]
    refine ⟨⟨by show (setF xs K (rcdF t r)).length ≤ _; omega, fun i hi => by have := hv.2 i hi; show lenB (vP (setF xs K (rcdF t r)) i) ≤ _; omega⟩, ?_⟩
    cases ht : isA t && isA r with
    | true =>
      have e2 : stF.rcd t r = recB t r := by show rcdF t r = _; unfold rcdF; rw [ht]; rfl
      rw [Bool.and_eq_true] at ht
      rw [e2, ht.1, ht.2, Bool.true_and, Bool.true_and]
      refine ⟨fun h3 => ?_, fun h3 => ?_⟩
      · rw [show bokF (setF xs K (recB t r)) = true from h3]; rfl
      · rw [show bokF (setF xs K (recB t r)) = false from h3]; rfl
    | false =>
      have e2 : rcdF t r = noB := by unfold rcdF; rw [ht]; rfl
      have hb : stF.bok (kvF.set xs K (stF.rcd t r)) = false := by
        show bokF (setF xs K (rcdF t r)) = false
        refine bok_bad h2 hK.is ?_
        show rokF (rcdF t r) = false
        rw [e2]; exact rok_none.1
      rw [hb, show (isA t && (isA r && bokF (setF xs K (recB t r)))) = false by rw [← Bool.and_assoc, ht]; rfl]
      exact ⟨fun h => (by cases h), fun _ => rfl⟩
  · rw [if_neg (by rw [h]; exact Bool.false_ne_true)]
theorem ref_tail {xs : List Value} {K : ByteArray} (hR : RightL xs) (hK : KeyOk K) {t r : Int} (ht : 0 ≤ t ∧ t ≤ 1099511627775) (hr : 0 ≤ r ∧ r ≤ 1099511627775) {G : List Value} (hG : [dsl zP (stkTail xs K t r).1, Value.int .i64 (stkTail xs K t r).2] = G) :
    xs.length ≤ 1000000 ∧ ((decide ((30 : Int) < ((kvF.rset xs K (stF.rrcd t r)).length : Int)) = true → [dsl zP xs, Value.int .i64 7] = G) ∧ (decide ((30 : Int) < ((kvF.rset xs K (stF.rrcd t r)).length : Int)) = false → ((kvF.rset xs K (stF.rrcd t r)).length ≤ 1000000 ∧ ∀ i, i < (kvF.rset xs K (stF.rrcd t r)).length → std.slen (vP (kvF.rset xs K (stF.rrcd t r)) i) ≤ 4000000) ∧
      ((stF.rbok (kvF.rset xs K (stF.rrcd t r)) = true → [dsl zP (kvF.rset xs K (stF.rrcd t r)), Value.int .i64 0] = G) ∧ (stF.rbok (kvF.rset xs K (stF.rrcd t r)) = false → [dsl zP xs, Value.int .i64 11] = G)))) := by
  subst hG
  have hx := right_vals hR
  have hm : mayF K (recB t r) = true := may_key hK (by have := recB_len t r; omega)
  have ho := ((right_iff xs).1 hR.1).2.1
  have hl := (rset_mem ho K (recB t r)).2
  have hroom : (fdF xs K || decide ((xs.length : Int) < 30)) = !decide ((30 : Int) < ((rsetF xs K (recB t r)).length : Int)) := by
    rcases hl with ⟨_, h1, h2⟩ | ⟨_, h1, h2⟩
    · rw [h2, h1, Bool.true_or, decide_eq_false (by omega)]; rfl
    · rw [h2, h1, Bool.false_or]
      by_cases c : xs.length < 30
      · rw [decide_eq_true (by omega), decide_eq_false (by omega)]; rfl
      · rw [decide_eq_false (by omega), decide_eq_true (by omega)]; rfl
  unfold stkTail
  rw [hroom]
  refine ⟨by omega, fun h => ?_, fun h => ?_⟩
  · have h : decide ((30 : Int) < ((rsetF xs K (recB t r)).length : Int)) = true := h
    rw [h]; rfl
  · have h : decide ((30 : Int) < ((rsetF xs K (recB t r)).length : Int)) = false := h
    rw [h]
    rw [h] at hroom
    have hroom : (fdF xs K || decide ((xs.length : Int) < 30)) = true := hroom
    obtain ⟨h1, h2⟩ := set_room hR hm hroom
    obtain ⟨e, _⟩ := set_rset hR (show setokF xs K (recB t r) = true by rw [setok_room hm]; exact hroom)
    have hv := right_vals h1
    have e3 : kvF.rset xs K (stF.rrcd t r) = setF xs K (recB t r) := e.symm
    rw [e3]
    refine ⟨⟨by omega, fun i hi => by have := hv.2 i hi; show lenB (vP (setF xs K (recB t r)) i) ≤ _; omega⟩, ?_⟩
    have hrec := rec_back ht hr
    cases hta : isA t && isA r with
    | true =>
      rw [Bool.and_eq_true] at hta
      rw [hta.1, hta.2, Bool.true_and, Bool.true_and]
      refine ⟨fun h3 => ?_, fun h3 => ?_⟩
      · rw [show bokF (setF xs K (recB t r)) = true from h3]; rfl
      · rw [show bokF (setF xs K (recB t r)) = false from h3]; rfl
    | false =>
      have hb : stF.rbok (setF xs K (recB t r)) = false := bok_bad h2 hK.is (by show rokF (recB t r) = false; rw [hrec.1, hta])
      rw [hb, show (isA t && (isA r && bokF (setF xs K (recB t r)))) = false by rw [← Bool.and_assoc, hta]; rfl]
      exact ⟨fun h => (by cases h), fun _ => rfl⟩
theorem stk_bad {k a b : Int} {xs : List Value} {s : ByteArray} (h : eqB s noB = true ∨ (16 : Int) < (lenB (keyS s) : Int) ∨ isA a = false) : stkF k xs s a b = (xs, 1) := by
  unfold stkF
  rw [if_pos]
  rcases h with h | h | h
  · rw [h]; rfl
  · rw [decide_eq_true h]; simp
  · rw [h]; simp
theorem stk_go {k a b : Int} {xs : List Value} {s : ByteArray} (h1 : eqB s noB = false) (h2 : ¬ (16 : Int) < (lenB (keyS s) : Int)) (h3 : isA a = true) : stkF k xs s a b =
    if fdF xs (keyS s) && !rokF (getF xs (keyS s)) then (xs, 1) else if !fdF xs (keyS s) && !decide (k = 1) then (xs, 3) else
    if (turnF k a b (rtokF (getF xs (keyS s))) (rrewF (getF xs (keyS s)))).2.2 = 1 then (xs, 1) else
    stkTail xs (keyS s) (turnF k a b (rtokF (getF xs (keyS s))) (rrewF (getF xs (keyS s)))).1 (turnF k a b (rtokF (getF xs (keyS s))) (rrewF (getF xs (keyS s)))).2.1 := by
  conv => lhs; unfold stkF
  rw [if_neg]
  rw [h1, decide_eq_false h2, h3]; exact Bool.false_ne_true
theorem keyOk_of {s : ByteArray} (h2 : ¬ (16 : Int) < (lenB (keyS s) : Int)) : KeyOk (keyS s) := ⟨keyS_ne s, by omega, keyS_is s⟩
theorem isA_of {a : Int} (h1 : decide (0 ≤ a) = true) (h2 : decide (a ≤ 1073741824) = true) : isA a = true := by unfold isA; rw [h1, h2]; rfl
theorem get_none {xs : List Value} {K : ByteArray} (h : fdF xs K = false) : getF xs K = noB := by unfold getF; rw [h]; rfl
theorem get_len {xs : List Value} (hR : RightL xs) (K : ByteArray) : lenB (getF xs K) ≤ 24 := by
  unfold getF
  split
  · rename_i h
    have h2 := fd_lt h
    have h3 := bsF_range xs K
    exact (right_vals hR).2 _ (by omega)
  · show 0 ≤ 24; omega
theorem sumB_len (s : ByteArray) (hs : lenB s ≤ 1000000) : std.slen (ByteArray.mk (Array.mk [(115 : UInt8), (47 : UInt8)])) + std.slen s ≤ 9223372036854775807 := by
  show 2 + lenB s ≤ _; omega
theorem delg_run (xs : List Value) (s : ByteArray) (a : Int) (hR : RightL xs) (hs : lenB s ≤ 1000000) (ha : -9223372036854775808 ≤ a ∧ a ≤ 9223372036854775807) : runP std (stkCon std kvF stF) 60 noL (delgP std stF) 9 Try.f9 (xs, s, a, ()) := by
  rw [delg_vc]
  have hx := right_vals hR
  have hg := get_len hR (keyS s)
  have hr := rtok_range (getF xs (keyS s))
  have bad : (eqB s noB = true ∨ (16 : Int) < (lenB (keyS s) : Int) ∨ isA a = false) → [dsl zP xs, Value.int .i64 1] = [dsl zP (stkF 1 xs s a 0).1, Value.int .i64 (stkF 1 xs s a 0).2] := fun h => by rw [stk_bad h]
  refine ⟨sumB_len s hs, fun h1 => bad (.inl h1), fun h2 => ⟨fun h3 => bad (.inr (.inl (of_decide_eq_true h3))), fun h4 => ⟨fun h5 => ⟨fun h6 => ⟨by omega, fun h7 => ?_, fun h15 => ?_⟩, fun h28 => bad (.inr (.inr ?_))⟩, fun h29 => bad (.inr (.inr ?_))⟩⟩⟩
  · have hfd : fdF xs (keyS s) = true := h7
    have h4 := of_decide_eq_false h4
    have e := stk_go (k := 1) (b := 0) (xs := xs) h2 h4 (isA_of h5 h6)
    rw [hfd] at e
    have h5 := of_decide_eq_true h5; have h6 := of_decide_eq_true h6
    refine ⟨by show lenB (getF xs (keyS s)) ≤ _; omega, fun h8 => ?_, fun h14 => ?_⟩
    · have hok : rokF (getF xs (keyS s)) = true := h8
      rw [hok] at e
      refine ⟨by show -9223372036854775808 ≤ rtokF (getF xs (keyS s)) + a ∧ rtokF (getF xs (keyS s)) + a ≤ _; omega, ⟨by show -9223372036854775808 ≤ rtokF (getF xs (keyS s)) + a ∧ rtokF (getF xs (keyS s)) + a ≤ _; omega, by show -9223372036854775808 ≤ rrewF (getF xs (keyS s)) ∧ rrewF (getF xs (keyS s)) ≤ _; omega⟩, ?_⟩
      exact impl_tail hR (keyOk_of h4) _ _ (G := [dsl zP (stkF 1 xs s a 0).1, Value.int .i64 (stkF 1 xs s a 0).2]) (by rw [e]; rfl)
    · have hok : rokF (getF xs (keyS s)) = false := h14
      rw [hok] at e
      show _ = [dsl zP (stkF 1 xs s a 0).1, Value.int .i64 (stkF 1 xs s a 0).2]
      rw [e]; rfl
  · have hfd : fdF xs (keyS s) = false := h15
    have h4 := of_decide_eq_false h4
    have e := stk_go (k := 1) (b := 0) (xs := xs) h2 h4 (isA_of h5 h6)
    rw [hfd] at e
    have h5 := of_decide_eq_true h5; have h6 := of_decide_eq_true h6
    have tl := impl_tail hR (keyOk_of h4) (rtokF (getF xs (keyS s)) + a) (rrewF (getF xs (keyS s))) (G := [dsl zP (stkF 1 xs s a 0).1, Value.int .i64 (stkF 1 xs s a 0).2]) (by rw [e]; rfl)
    have rest : (-9223372036854775808 ≤ stF.rtok (kvF.get xs (keyS s)) + a ∧ stF.rtok (kvF.get xs (keyS s)) + a ≤ 9223372036854775807) ∧ ((-9223372036854775808 ≤ stF.rtok (kvF.get xs (keyS s)) + a ∧ stF.rtok (kvF.get xs (keyS s)) + a ≤ 9223372036854775807) ∧ (-9223372036854775808 ≤ stF.rrew (kvF.get xs (keyS s)) ∧ stF.rrew (kvF.get xs (keyS s)) ≤ 9223372036854775807)) := by
      have t1 : -9223372036854775808 ≤ rtokF (getF xs (keyS s)) + a ∧ rtokF (getF xs (keyS s)) + a ≤ 9223372036854775807 := by omega
      have t2 : -9223372036854775808 ≤ rrewF (getF xs (keyS s)) ∧ rrewF (getF xs (keyS s)) ≤ 9223372036854775807 := by omega
      exact ⟨t1, t1, t2⟩
    exact ⟨by show lenB (getF xs (keyS s)) ≤ _; omega, fun _ => ⟨rest.1, rest.2, tl⟩, fun _ => ⟨rest.1, rest.2, tl⟩⟩
  · unfold isA; rw [h28]; simp
  · unfold isA; rw [h29]; rfl
theorem rwd_run (xs : List Value) (s : ByteArray) (a : Int) (hR : RightL xs) (hs : lenB s ≤ 1000000) (ha : -9223372036854775808 ≤ a ∧ a ≤ 9223372036854775807) : runP std (stkCon std kvF stF) 60 noL (rwdP std stF) 11 Try.f11 (xs, s, a, ()) := by
  rw [rwd_vc]
  have hx := right_vals hR
  have hg := get_len hR (keyS s)
  have hr := rtok_range (getF xs (keyS s))
  have bad : (eqB s noB = true ∨ (16 : Int) < (lenB (keyS s) : Int) ∨ isA a = false) → [dsl zP xs, Value.int .i64 1] = [dsl zP (stkF 2 xs s a 0).1, Value.int .i64 (stkF 2 xs s a 0).2] := fun h => by rw [stk_bad h]
  refine ⟨sumB_len s hs, fun h1 => bad (.inl h1), fun h2 => ⟨fun h3 => bad (.inr (.inl (of_decide_eq_true h3))), fun h4 => ⟨fun h5 => ⟨fun h6 => ⟨by omega, fun h7 => ?_, fun h15 => ?_⟩, fun h28 => bad (.inr (.inr ?_))⟩, fun h29 => bad (.inr (.inr ?_))⟩⟩⟩
  · have hfd : fdF xs (keyS s) = true := h7
    have h4 := of_decide_eq_false h4
    have e := stk_go (k := 2) (b := 0) (xs := xs) h2 h4 (isA_of h5 h6)
    rw [hfd] at e
    have h5 := of_decide_eq_true h5; have h6 := of_decide_eq_true h6
    refine ⟨by show lenB (getF xs (keyS s)) ≤ _; omega, fun h8 => ?_, fun h14 => ?_⟩
    · have hok : rokF (getF xs (keyS s)) = true := h8
      rw [hok] at e
      refine ⟨by show -9223372036854775808 ≤ rrewF (getF xs (keyS s)) + a ∧ rrewF (getF xs (keyS s)) + a ≤ _; omega, ⟨by show -9223372036854775808 ≤ rtokF (getF xs (keyS s)) ∧ rtokF (getF xs (keyS s)) ≤ _; omega, by show -9223372036854775808 ≤ rrewF (getF xs (keyS s)) + a ∧ rrewF (getF xs (keyS s)) + a ≤ _; omega⟩, ?_⟩
      exact impl_tail hR (keyOk_of h4) _ _ (G := [dsl zP (stkF 2 xs s a 0).1, Value.int .i64 (stkF 2 xs s a 0).2]) (by rw [e]; rfl)
    · have hok : rokF (getF xs (keyS s)) = false := h14
      rw [hok] at e
      show _ = [dsl zP (stkF 2 xs s a 0).1, Value.int .i64 (stkF 2 xs s a 0).2]
      rw [e]; rfl
  · have hfd : fdF xs (keyS s) = false := h15
    have h4 := of_decide_eq_false h4
    have e := stk_go (k := 2) (b := 0) (xs := xs) h2 h4 (isA_of h5 h6)
    rw [hfd] at e
    have e2 : [dsl zP xs, Value.int .i64 3] = [dsl zP (stkF 2 xs s a 0).1, Value.int .i64 (stkF 2 xs s a 0).2] := by rw [e]; rfl
    exact ⟨by show lenB (getF xs (keyS s)) ≤ _; omega, fun _ => e2, fun _ => e2⟩
  · unfold isA; rw [h28]; simp
  · unfold isA; rw [h29]; rfl
theorem slash_range {t a b : Int} (ht : 0 ≤ t ∧ t ≤ 1073741824) (ha : 0 ≤ a) (hab : ¬ b < a) (hb : ¬ b < 1) (hm : ¬ 1048576 < b) : 0 ≤ t * (b - a) ∧ t * (b - a) ≤ 1125899906842624 ∧ 0 ≤ Int.tdiv (t * (b - a)) b ∧ Int.tdiv (t * (b - a)) b ≤ 1125899906842624 ∧ Int.tdiv (t * (b - a)) b ≤ 1099511627775 := by
  have h0 : 0 ≤ t * (b - a) := Int.mul_nonneg ht.1 (by omega)
  have h1 : t * (b - a) ≤ t * b := Int.mul_le_mul_of_nonneg_left (by omega) ht.1
  have h2 : t * b ≤ 1073741824 * b := Int.mul_le_mul_of_nonneg_right ht.2 (by omega)
  have h3 : Int.tdiv (t * (b - a)) b = (t * (b - a)) / b := Int.tdiv_eq_ediv_of_nonneg h0
  have h4 : (t * (b - a)) / b ≤ t := by
    have : (t * (b - a)) / b ≤ (t * b) / b := Int.ediv_le_ediv (by omega) h1
    rw [Int.mul_ediv_cancel _ (by omega)] at this
    exact this
  have h5 : 0 ≤ (t * (b - a)) / b := Int.ediv_nonneg h0 (by omega)
  rw [h3]
  omega
theorem sla_run (xs : List Value) (s : ByteArray) (a b : Int) (hR : RightL xs) (hs : lenB s ≤ 1000000) (hb : -9223372036854775808 ≤ b ∧ b ≤ 9223372036854775807) : runP std (stkCon std kvF stF) 60 noL (slaP std stF) 10 Try.f10 (xs, s, a, b, ()) := by
  rw [sla_vc]
  have hx := right_vals hR
  have hg := get_len hR (keyS s)
  have hr := rtok_range (getF xs (keyS s))
  have bad : (eqB s noB = true ∨ (16 : Int) < (lenB (keyS s) : Int) ∨ isA a = false) → [dsl zP xs, Value.int .i64 1] = [dsl zP (stkF 3 xs s a b).1, Value.int .i64 (stkF 3 xs s a b).2] := fun h => by rw [stk_bad h]
  refine ⟨sumB_len s hs, fun h1 => bad (.inl h1), fun h2 => ⟨fun h3 => bad (.inr (.inl (of_decide_eq_true h3))), fun h4 => ⟨fun h5 => ⟨fun h6 => ⟨by omega, fun h7 => ?_, fun h15 => ?_⟩, fun h28 => bad (.inr (.inr ?_))⟩, fun h29 => bad (.inr (.inr ?_))⟩⟩⟩
  · have hfd : fdF xs (keyS s) = true := h7
    have h4 := of_decide_eq_false h4
    have e := stk_go (k := 3) (b := b) (xs := xs) h2 h4 (isA_of h5 h6)
    rw [hfd] at e
    have h5 := of_decide_eq_true h5; have h6 := of_decide_eq_true h6
    refine ⟨by show lenB (getF xs (keyS s)) ≤ _; omega, fun h8 => ?_, fun h14 => ?_⟩
    · have hok : rokF (getF xs (keyS s)) = true := h8
      rw [hok] at e
      have e1 : (b < 1 ∨ 1048576 < b ∨ b < a) → [dsl zP xs, Value.int .i64 1] = [dsl zP (stkF 3 xs s a b).1, Value.int .i64 (stkF 3 xs s a b).2] := fun h => by
        have ht : turnF 3 a b (rtokF (getF xs (keyS s))) (rrewF (getF xs (keyS s))) = (0, 0, 1) := by
          unfold turnF; rw [if_neg (by omega), if_neg (by omega), if_pos h]
        rw [e, ht]; rfl
      refine ⟨fun h9 => e1 (.inl (of_decide_eq_true h9)), fun h10 => ⟨fun h11 => e1 (.inr (.inl (of_decide_eq_true h11))), fun h12 => ⟨fun h13 => e1 (.inr (.inr (of_decide_eq_true h13))), fun h14 => ?_⟩⟩⟩
      have h10 := of_decide_eq_false h10; have h12 := of_decide_eq_false h12; have h14 := of_decide_eq_false h14
      obtain ⟨s1, s2, s3, s4, s5⟩ := slash_range (t := rtokF (getF xs (keyS s))) ⟨hr.1, hr.2.1⟩ h5 h14 h10 h12
      have ht : turnF 3 a b (rtokF (getF xs (keyS s))) (rrewF (getF xs (keyS s))) = (Int.tdiv (rtokF (getF xs (keyS s)) * (b - a)) b, rrewF (getF xs (keyS s)), 0) := by
        unfold turnF; rw [if_neg (by omega), if_neg (by omega), if_neg (by omega)]
      rw [ht] at e
      have m1 : -9223372036854775808 ≤ rtokF (getF xs (keyS s)) * (b - a) ∧ rtokF (getF xs (keyS s)) * (b - a) ≤ 9223372036854775807 := by omega
      refine ⟨by omega, m1, ⟨by omega, m1⟩, ⟨?_, ?_⟩, ?_⟩
      · show -9223372036854775808 ≤ Int.tdiv (rtokF (getF xs (keyS s)) * (b - a)) b ∧ Int.tdiv (rtokF (getF xs (keyS s)) * (b - a)) b ≤ 9223372036854775807
        omega
      · show -9223372036854775808 ≤ rrewF (getF xs (keyS s)) ∧ rrewF (getF xs (keyS s)) ≤ 9223372036854775807
        omega
      · exact impl_tail hR (keyOk_of h4) _ _ (G := [dsl zP (stkF 3 xs s a b).1, Value.int .i64 (stkF 3 xs s a b).2]) (by rw [e]; rfl)
    · have hok : rokF (getF xs (keyS s)) = false := h14
      rw [hok] at e
      show _ = [dsl zP (stkF 3 xs s a b).1, Value.int .i64 (stkF 3 xs s a b).2]
      rw [e]; rfl
  · have hfd : fdF xs (keyS s) = false := h15
    have h4 := of_decide_eq_false h4
    have e := stk_go (k := 3) (b := b) (xs := xs) h2 h4 (isA_of h5 h6)
    rw [hfd] at e
    have e2 : [dsl zP xs, Value.int .i64 3] = [dsl zP (stkF 3 xs s a b).1, Value.int .i64 (stkF 3 xs s a b).2] := by rw [e]; rfl
    exact ⟨by show lenB (getF xs (keyS s)) ≤ _; omega, fun _ => e2, fun _ => e2⟩
  · unfold isA; rw [h28]; simp
  · unfold isA; rw [h29]; rfl
theorem empty_iff {s : ByteArray} : eqB s noB = decide ((lenB s : Int) < 1) := by
  unfold eqB noB lenB
  cases h : s.data.toList with
  | nil => rfl
  | cons a l =>
    rw [decide_eq_false (by simp only [List.length_cons]; omega)]; rfl
theorem rstk_run (xs : List Value) (k : Int) (s : ByteArray) (a b : Int) (hR : RightL xs) (hs : lenB s ≤ 1000000) (hk : 1 ≤ k ∧ k ≤ 3) : runP std (rstkCon std kvF stF) 60 noL (rstkP std stF) 17 Try.f17 (xs, k, s, a, b, ()) := by
  rw [rstk_vc]
  have hx := right_vals hR
  have hr := rtok_range (getF xs (keyS s))
  have ho := ((right_iff xs).1 hR.1).2.1
  have hf := rfirst_range xs (keyS s)
  have hfd := fd_eq (keyS s) ho
  have hbs := bs_rfirst (keyS s) ho
  have bad : (eqB s noB = true ∨ (16 : Int) < (lenB (keyS s) : Int) ∨ isA a = false) → [dsl zP xs, Value.int .i64 1] = [dsl zP (stkF k xs s a b).1, Value.int .i64 (stkF k xs s a b).2] := fun h => by rw [stk_bad h]
  refine ⟨sumB_len s hs, fun h1 => bad (.inl (by rw [empty_iff]; exact h1)), fun h2 => ⟨fun h3 => bad (.inr (.inl (of_decide_eq_true h3))), fun h4 => ⟨fun h5 => bad (.inr (.inr ?_)), fun h6 => ⟨fun h7 => bad (.inr (.inr ?_)), fun h8 => ⟨fun h9 => absurd (of_decide_eq_true h9) (by omega), fun h10 => ⟨fun h11 => absurd (of_decide_eq_true h11) (by omega), fun h12 => ⟨by omega, ?_⟩⟩⟩⟩⟩⟩⟩
  · have := of_decide_eq_true h5
    unfold isA; rw [decide_eq_false (by omega)]; rfl
  · have := of_decide_eq_true h7
    unfold isA; rw [decide_eq_false (show ¬ a ≤ 1073741824 by omega)]; simp
  have h4 := of_decide_eq_false h4
  have h6 := of_decide_eq_false h6
  have h8 := of_decide_eq_false h8
  have e := stk_go (k := k) (b := b) (xs := xs) (s := s) (a := a) (by rw [empty_iff]; exact h2) h4 (isA_of (decide_eq_true (by omega)) (decide_eq_true (by omega)))
  have hK := keyOk_of h4
  have unmet : fdF xs (keyS s) = false → (((k == 1) = true → ((-9223372036854775808 ≤ 0 + a ∧ 0 + a ≤ 9223372036854775807) ∧ ((-9223372036854775808 ≤ 0 + a ∧ 0 + a ≤ 9223372036854775807) ∧ ((-9223372036854775808 : Int) ≤ 0 ∧ (0 : Int) ≤ 9223372036854775807))) ∧ stkF k xs s a b = stkTail xs (keyS s) (0 + a) 0) ∧ ((k == 1) = false → stkF k xs s a b = (xs, 3))) := fun h => by
    rw [h] at e
    have hg := get_none h
    obtain ⟨g1, g2, g3⟩ := rok_none
    refine ⟨fun h1 => ⟨by omega, ?_⟩, fun h1 => ?_⟩
    · have h1 : k = 1 := by simpa using h1
      rw [e, hg, g2, g3, h1]; rfl
    · have h1 : ¬ k = 1 := by simpa using h1
      rw [e, decide_eq_false h1]; rfl
  refine ⟨fun h13 => ?_, fun h66 => ?_⟩
  · have h13 : decide (rfirstF xs (keyS s) < (xs.length : Int)) = true := h13
    have h13' := of_decide_eq_true h13
    have hidx : 0 ≤ rfirstF xs (keyS s) ∧ rfirstF xs (keyS s) < (xs.length : Int) := ⟨hf.1, h13'⟩
    refine ⟨hidx, fun h14 => ?_, fun h49 => ?_⟩
    · have hmet : fdF xs (keyS s) = true := by rw [hfd, h13]; exact h14
      have hget : vP xs (rfirstF xs (keyS s)).toNat = getF xs (keyS s) := by unfold getF; rw [hmet, hbs]; rfl
      have hlen := hx.2 (rfirstF xs (keyS s)).toNat (by omega)
      rw [hmet] at e
      have hget' : vP xs (kvF.rfirst xs (keyS s)).toNat = getF xs (keyS s) := hget
      refine ⟨hidx, by show lenB (vP xs (rfirstF xs (keyS s)).toNat) ≤ 4000000; omega, fun h15 => ?_, fun h48 => ?_⟩
      · have hok : rokF (getF xs (keyS s)) = true := by rw [← hget]; exact h15
        rw [hok] at e
        have eT : stF.qtok (vP xs (kvF.rfirst xs (keyS s)).toNat) = rtokF (getF xs (keyS s)) := by rw [hget']; rfl
        have eR : stF.qrew (vP xs (kvF.rfirst xs (keyS s)).toNat) = rrewF (getF xs (keyS s)) := by rw [hget']; rfl
        have go1 : k = 1 → stkF k xs s a b = stkTail xs (keyS s) (rtokF (getF xs (keyS s)) + a) (rrewF (getF xs (keyS s))) := fun h => by rw [e, h]; rfl
        have go2 : k = 2 → stkF k xs s a b = stkTail xs (keyS s) (rtokF (getF xs (keyS s))) (rrewF (getF xs (keyS s)) + a) := fun h => by rw [e, h]; rfl
        have go3 : k = 3 → (b < 1 ∨ 1048576 < b ∨ b < a) → stkF k xs s a b = (xs, 1) := fun h hc => by
          have ht : turnF k a b (rtokF (getF xs (keyS s))) (rrewF (getF xs (keyS s))) = (0, 0, 1) := by
            unfold turnF; rw [if_neg (by omega), if_neg (by omega), if_pos hc]
          rw [e, ht, h]; rfl
        have go4 : k = 3 → ¬ (b < 1 ∨ 1048576 < b ∨ b < a) → stkF k xs s a b = stkTail xs (keyS s) (Int.tdiv (rtokF (getF xs (keyS s)) * (b - a)) b) (rrewF (getF xs (keyS s))) := fun h hc => by
          have ht : turnF k a b (rtokF (getF xs (keyS s))) (rrewF (getF xs (keyS s))) = (Int.tdiv (rtokF (getF xs (keyS s)) * (b - a)) b, rrewF (getF xs (keyS s)), 0) := by
            unfold turnF; rw [if_neg (by omega), if_neg (by omega), if_neg hc]
          rw [e, ht, h]; rfl
        have tl := fun (t r : Int) (ht : 0 ≤ t ∧ t ≤ 1099511627775) (hr' : 0 ≤ r ∧ r ≤ 1099511627775) (h : stkF k xs s a b = stkTail xs (keyS s) t r) => ref_tail hR hK ht hr' (G := [dsl zP (stkF k xs s a b).1, Value.int .i64 (stkF k xs s a b).2]) (by rw [h])
        have r1 : -9223372036854775808 ≤ rtokF (getF xs (keyS s)) + a ∧ rtokF (getF xs (keyS s)) + a ≤ 9223372036854775807 := by omega
        have r2 : -9223372036854775808 ≤ rrewF (getF xs (keyS s)) ∧ rrewF (getF xs (keyS s)) ≤ 9223372036854775807 := by omega
        have r3 : -9223372036854775808 ≤ rrewF (getF xs (keyS s)) + a ∧ rrewF (getF xs (keyS s)) + a ≤ 9223372036854775807 := by omega
        have r4 : -9223372036854775808 ≤ rtokF (getF xs (keyS s)) ∧ rtokF (getF xs (keyS s)) ≤ 9223372036854775807 := by omega
        have eK : (ByteArray.mk (Array.mk [(115 : UInt8), (47 : UInt8)])) ++ s = keyS s := rfl
        rw [eK, eT, eR]
        refine ⟨fun h16 => ⟨r1, ⟨r1, r2⟩, tl _ _ (by omega) (by omega) (go1 (by simpa using h16))⟩, fun h22 => ⟨fun h23 => ⟨r3, ⟨r4, r3⟩, tl _ _ (by omega) (by omega) (go2 (by simpa using h23))⟩, fun h29 => ⟨fun h30 => ?_, fun h42 => ?_⟩⟩⟩
        · have h30 : k = 3 := by simpa using h30
          have b3 : (b < 1 ∨ 1048576 < b ∨ b < a) → [dsl zP xs, Value.int .i64 1] = [dsl zP (stkF k xs s a b).1, Value.int .i64 (stkF k xs s a b).2] := fun h => by rw [go3 h30 h]
          refine ⟨fun h31 => b3 (.inl (of_decide_eq_true h31)), fun h32 => ⟨fun h33 => b3 (.inr (.inl (of_decide_eq_true h33))), fun h34 => ⟨fun h35 => b3 (.inr (.inr (of_decide_eq_true h35))), fun h36 => ?_⟩⟩⟩
          have h32 := of_decide_eq_false h32; have h34 := of_decide_eq_false h34; have h36 := of_decide_eq_false h36
          obtain ⟨s1, s2, s3, s4, s5⟩ := slash_range (t := rtokF (getF xs (keyS s))) ⟨hr.1, hr.2.1⟩ (by omega) h36 h32 h34
          have m1 : -9223372036854775808 ≤ rtokF (getF xs (keyS s)) * (b - a) ∧ rtokF (getF xs (keyS s)) * (b - a) ≤ 9223372036854775807 := by omega
          have m2 : -9223372036854775808 ≤ std.quo (rtokF (getF xs (keyS s)) * (b - a)) b ∧ std.quo (rtokF (getF xs (keyS s)) * (b - a)) b ≤ 9223372036854775807 := by
            show -9223372036854775808 ≤ Int.tdiv (rtokF (getF xs (keyS s)) * (b - a)) b ∧ Int.tdiv (rtokF (getF xs (keyS s)) * (b - a)) b ≤ 9223372036854775807
            omega
          exact ⟨by omega, m1, ⟨by omega, m1⟩, ⟨m2, r2⟩, tl _ _ ⟨s3, s5⟩ (by omega) (go4 h30 (by omega))⟩
        · exfalso
          have q1 : ¬ k = 1 := by simpa using h22
          have q2 : ¬ k = 2 := by simpa using h29
          have q3 : ¬ k = 3 := by simpa using h42
          omega
      · have hok : rokF (getF xs (keyS s)) = false := by rw [← hget]; exact h48
        rw [hok] at e
        show _ = [dsl zP (stkF k xs s a b).1, Value.int .i64 (stkF k xs s a b).2]
        rw [e]; rfl
    · have hun : fdF xs (keyS s) = false := by rw [hfd, h13]; exact h49
      obtain ⟨u1, u2⟩ := unmet hun
      have u3 : (k == 1) = false → [dsl zP xs, Value.int .i64 3] = [dsl zP (stkF k xs s a b).1, Value.int .i64 (stkF k xs s a b).2] := fun h => by rw [u2 h]
      refine ⟨fun h50 => ⟨(u1 h50).1.1, (u1 h50).1.2, ref_tail hR hK (t := 0 + a) (r := 0) (by omega) (by omega) (G := [dsl zP (stkF k xs s a b).1, Value.int .i64 (stkF k xs s a b).2]) (by rw [(u1 h50).2])⟩, fun h56 => ⟨fun _ => u3 h56, fun h58 => ⟨fun _ => u3 h56, fun h60 => ?_⟩⟩⟩
      exfalso
      have q1 : ¬ k = 1 := by simpa using h56
      have q2 : ¬ k = 2 := by simpa using h58
      have q3 : ¬ k = 3 := by simpa using h60
      omega
  · have h66 : decide (rfirstF xs (keyS s) < (xs.length : Int)) = false := h66
    have hun : fdF xs (keyS s) = false := by rw [hfd, h66]; rfl
    obtain ⟨u1, u2⟩ := unmet hun
    have u3 : (k == 1) = false → [dsl zP xs, Value.int .i64 3] = [dsl zP (stkF k xs s a b).1, Value.int .i64 (stkF k xs s a b).2] := fun h => by rw [u2 h]
    refine ⟨fun h50 => ⟨(u1 h50).1.1, (u1 h50).1.2, ref_tail hR hK (t := 0 + a) (r := 0) (by omega) (by omega) (G := [dsl zP (stkF k xs s a b).1, Value.int .i64 (stkF k xs s a b).2]) (by rw [(u1 h50).2])⟩, fun h56 => ⟨fun _ => u3 h56, fun h58 => ⟨fun _ => u3 h56, fun h60 => ?_⟩⟩⟩
    exfalso
    have q1 : ¬ k = 1 := by simpa using h56
    have q2 : ¬ k = 2 := by simpa using h58
    have q3 : ¬ k = 3 := by simpa using h60
    omega
theorem stkCon_ok : ConOk Try.prog (stkCon std kvF stF) := conL_ok fun x hx => by
  simp only [List.mem_cons, List.not_mem_nil, or_false] at hx
  rcases hx with rfl | rfl | rfl | rfl | rfl
  · exact pcon_ok get_ok
  · exact pcon_ok set_ok
  · exact pcon_ok rd_ok
  · exact pcon_ok rcd_ok
  · exact pcon_ok bck_ok
theorem rstkCon_ok : ConOk Try.prog (rstkCon std kvF stF) := conL_ok fun x hx => by
  simp only [List.mem_cons, List.not_mem_nil, or_false] at hx
  rcases hx with rfl | rfl | rfl | rfl | rfl
  · exact pcon_ok rfirst_ok
  · exact pcon_ok rset_ok
  · exact pcon_ok qrd_ok
  · exact pcon_ok rrcd_ok
  · exact pcon_ok rbck_ok
theorem delg_ok : PFOk Try.prog 9 (delgP std stF) :=
  pf_ok (LS := fun _ => noL) Try.progOk stkCon_ok (inCallF_ok 60) (delgP std stF) Try.func9 (show _ = some (bodyS Try.prog 9) by kernel_rfl) fun d hd => delg_run d.1 d.2.1 d.2.2.1 hd.1 hd.2.1 hd.2.2.1
theorem rwd_ok : PFOk Try.prog 11 (rwdP std stF) :=
  pf_ok (LS := fun _ => noL) Try.progOk stkCon_ok (inCallF_ok 60) (rwdP std stF) Try.func11 (show _ = some (bodyS Try.prog 11) by kernel_rfl) fun d hd => rwd_run d.1 d.2.1 d.2.2.1 hd.1 hd.2.1 hd.2.2.1
theorem sla_ok : PFOk Try.prog 10 (slaP std stF) :=
  pf_ok (LS := fun _ => noL) Try.progOk stkCon_ok (inCallF_ok 60) (slaP std stF) Try.func10 (show _ = some (bodyS Try.prog 10) by kernel_rfl) fun d hd => sla_run d.1 d.2.1 d.2.2.1 d.2.2.2.1 hd.1 hd.2.1 hd.2.2.2
theorem rstk_ok : PFOk Try.prog 17 (rstkP std stF) :=
  pf_ok (LS := fun _ => noL) Try.progOk rstkCon_ok (inCallF_ok 60) (rstkP std stF) Try.func17 (show _ = some (bodyS Try.prog 17) by kernel_rfl) fun d hd => rstk_run d.1 d.2.1 d.2.2.1 d.2.2.2.1 d.2.2.2.2.1 hd.1.1 hd.1.2.1 hd.2
end Go.Proofs.Ytecdmdglkkeidaa
end
section
namespace Go.Proofs.Ytecdmdglkkeidaa
open Go.RowKit Go.Abs Go
def wtO (x : Value) : Option Int := if isF (keyV x) then (if rokF (valV x) then some (rtokF (valV x) + rrewF (valV x)) else none) else some 0
def addO : Option Int → Option Int → Option Int
  | some a, some b => some (a + b)
  | _, _ => none
def sumO : List Value → Option Int
  | [] => some 0
  | x :: r => addO (wtO x) (sumO r)
theorem addO_comm (a b : Option Int) : addO a b = addO b a := by
  cases a <;> cases b <;> simp [addO, Int.add_comm]
theorem addO_assoc (a b c : Option Int) : addO (addO a b) c = addO a (addO b c) := by
  cases a <;> cases b <;> cases c <;> simp [addO, Int.add_assoc]
theorem addO_zero (a : Option Int) : addO (some 0) a = a := by
  cases a <;> simp [addO]
theorem sumO_append : ∀ (l m : List Value), sumO (l ++ m) = addO (sumO l) (sumO m)
  | [], m => (addO_zero _).symm
  | x :: l, m => by
    show addO (wtO x) (sumO (l ++ m)) = addO (addO (wtO x) (sumO l)) (sumO m)
    rw [sumO_append l m, addO_assoc]
theorem sumO_perm {l m : List Value} (h : l.Perm m) : sumO l = sumO m := by
  induction h with
  | nil => rfl
  | cons x _ ih => show addO (wtO x) _ = addO (wtO x) _; rw [ih]
  | swap x y l =>
    show addO (wtO y) (addO (wtO x) (sumO l)) = addO (wtO x) (addO (wtO y) (sumO l))
    rw [← addO_assoc, addO_comm (wtO y), addO_assoc]
  | trans _ _ h1 h2 => exact h1.trans h2
theorem bk_sum (l : List Value) : ∀ i, i ≤ l.length → bkSumL l i = sumO (l.take i)
  | 0, _ => rfl
  | i + 1, h => by
    have hi : i < l.length := h
    rw [List.take_succ_eq_append_getElem hi, sumO_append, ← bk_sum l i (by omega)]
    conv => lhs; unfold bkSumL
    rw [kP_get hi, vP_get hi]
    have e : sumO [l[i]] = wtO l[i] := by show addO (wtO l[i]) (some 0) = _; rw [addO_comm, addO_zero]
    rw [e]
    unfold wtO
    cases bkSumL l i with
    | none => rfl
    | some a =>
      simp only
      split
      · split
        · rfl
        · rfl
      · show some a = some (a + 0); rw [Int.add_zero]
theorem bok_sum (l : List Value) : bokF l = match sumO l with | some a => decide (a ≤ 1073741824) | none => false := by
  unfold bokF
  rw [bk_sum l l.length (Nat.le_refl _), List.take_length]
  rfl
theorem bck_sum (l : List Value) : bckF l = match sumO l with | some a => if a ≤ 1073741824 then a else 0 | none => 0 := by
  unfold bckF
  rw [bk_sum l l.length (Nat.le_refl _), List.take_length]
  rfl
theorem sum_none0 : ∀ {l : List Value}, (∀ x ∈ l, isF (keyV x) = false) → sumO l = some 0
  | [], _ => rfl
  | x :: l, h => by
    show addO (wtO x) (sumO l) = some 0
    rw [sum_none0 fun y hy => h y (List.mem_cons_of_mem _ hy)]
    unfold wtO
    rw [h x (List.mem_cons_self ..)]; rfl
theorem rset_perm {l : List Value} (ho : Ord l) {k v : ByteArray} (hn : fdF l k = false) : (rsetF l k v).Perm (prV k v :: l) := by
  obtain ⟨r, hr, hle, _, _, _⟩ := split_at k ho
  have h1 := fd_eq k ho
  rw [hn] at h1
  unfold rsetF putF
  rw [← h1, hr, Int.toNat_natCast, if_neg Bool.false_ne_true, List.append_assoc]
  have h2 : l = l.take r ++ l.drop r := (List.take_append_drop r l).symm
  conv => rhs; rw [h2]
  exact List.perm_middle
theorem fd_none {l : List Value} (hR : RightL l) {K : ByteArray} (h : ∀ y ∈ l, keyV y ≠ K) : fdF l K = false := by
  cases c : fdF l K with
  | false => rfl
  | true =>
    obtain ⟨x, hx, he⟩ := fd_mem hR K c
    exact absurd he (h x hx)
theorem ord_inj {l : List Value} (ho : Ord l) {x y : Value} (hx : x ∈ l) (hy : y ∈ l) (h : keyV x = keyV y) : x = y := by
  obtain ⟨i, hi, rfl⟩ := List.getElem_of_mem hx
  obtain ⟨j, hj, rfl⟩ := List.getElem_of_mem hy
  rcases Nat.lt_trichotomy i j with c | c | c
  · have := (List.pairwise_iff_getElem.1 ho) i j hi hj c
    rw [h, lt_irrefl] at this; cases this
  · subst c; rfl
  · have := (List.pairwise_iff_getElem.1 ho) j i hj hi c
    rw [h, lt_irrefl] at this; cases this
theorem get_mem {l : List Value} (hR : RightL l) {k v : ByteArray} (h : prV k v ∈ l) : fdF l k = true ∧ getF l k = v := by
  have ho := ((right_iff l).1 hR.1).2.1
  have hf : fdF l k = true := by
    rcases (rset_mem ho k noB).2 with ⟨_, _, h3⟩ | ⟨h1, _, _⟩
    · exact h3
    · exact absurd rfl (h1 _ h)
  refine ⟨hf, ?_⟩
  unfold getF
  rw [if_pos hf, bs_rfirst k ho]
  obtain ⟨r, hr, hle, _, _, h3⟩ := split_at k ho
  rw [fd_eq k ho] at hf
  obtain ⟨hlt, h4, _⟩ := h3 hf
  rw [hr, Int.toNat_natCast, vP_get hlt, ord_inj ho (List.getElem_mem hlt) h (h4.trans rfl)]; rfl
structure NewOk (l : List Value) (nm : ByteArray) (x s0 : Int) : Prop where
  eq : stkF 1 l nm x 0 = (setF l (keyS nm) (recB x 0), 0)
  right : RightL (setF l (keyS nm) (recB x 0))
  mem : ∀ y, y ∈ setF l (keyS nm) (recB x 0) ↔ y = prV (keyS nm) (recB x 0) ∨ y ∈ l
  len : (setF l (keyS nm) (recB x 0)).length = l.length + 1
  sum : sumO (setF l (keyS nm) (recB x 0)) = some (s0 + x)
/-- Delegated to a new name. -/
theorem delg_new {l : List Value} {nm : ByteArray} {x s0 : Int} (hR : RightL l) (hlen : l.length < 30) (h1 : eqB nm noB = false) (h2 : ¬ (16 : Int) < (lenB (keyS nm) : Int)) (hn : ∀ y ∈ l, keyV y ≠ keyS nm) (hx : 0 ≤ x ∧ x ≤ 1000000) (hs : sumO l = some s0) (hs0 : 0 ≤ s0 ∧ s0 + x ≤ 1073741824) : NewOk l nm x s0 := by
  have hfd := fd_none hR hn
  have hK := keyOk_of h2
  have hm : mayF (keyS nm) (recB x 0) = true := may_key hK (by have := recB_len x 0; omega)
  have hroom : (fdF l (keyS nm) || decide ((l.length : Int) < 30)) = true := by rw [decide_eq_true (by omega)]; simp
  obtain ⟨e, _⟩ := set_rset hR (show setokF l (keyS nm) (recB x 0) = true by rw [setok_room hm]; exact hroom)
  obtain ⟨r1, m1, l1⟩ := set_mem hR hm (.inl hlen)
  have hp := rset_perm ((right_iff l).1 hR.1).2.1 (v := recB x 0) hfd
  rw [← e] at hp
  have hA : isA x = true := isA_of (decide_eq_true hx.1) (decide_eq_true (by omega))
  have hA0 : isA 0 = true := rfl
  obtain ⟨b1, b2⟩ := rec_back (a := x) (b := 0) (by omega) (by omega)
  obtain ⟨b3, b4⟩ := b2 hA hA0
  have hsum : sumO (setF l (keyS nm) (recB x 0)) = some (s0 + x) := by
    rw [sumO_perm hp]
    show addO (wtO (prV (keyS nm) (recB x 0))) (sumO l) = _
    have hw : wtO (prV (keyS nm) (recB x 0)) = some x := by
      show (if isF (keyS nm) then (if rokF (recB x 0) then some (rtokF (recB x 0) + rrewF (recB x 0)) else none) else some 0) = some x
      rw [hK.is, b1, hA, hA0, b3, b4, Int.add_zero]; rfl
    rw [hw, hs]
    show some (x + s0) = some (s0 + x)
    rw [Int.add_comm]
  refine ⟨?_, r1, fun y => ?_, ?_, hsum⟩
  · have g := stk_go (k := 1) (b := 0) (xs := l) h1 h2 hA
    have hgn := get_none hfd
    obtain ⟨g1, g2, g3⟩ := rok_none
    rw [g, hfd, hgn, g2, g3]
    show stkTail l (keyS nm) (0 + x) 0 = _
    unfold stkTail
    rw [hroom, if_pos rfl, Int.zero_add, hA, hA0, bok_sum, hsum]
    simp only
    rw [if_pos (by simp [hs0.2])]
  · rw [m1 y]
    constructor
    · rintro (h | h)
      · exact .inl h
      · exact .inr h.1
    · rintro (h | h)
      · exact .inl h
      · exact .inr ⟨h, hn y h⟩
  · have := hp.length_eq
    simpa using this
def nmA : ByteArray := ⟨#[97]⟩
def nmB' : ByteArray := ⟨#[98]⟩
def qB : ByteArray := ⟨#[63]⟩
def othF (xs : List Value) : Nat → List Value
  | 0 => []
  | i + 1 => if isF (kP xs i) then othF xs i else othF xs i ++ [prV (kP xs i) (vP xs i)]
theorem oth_filter {xs : List Value} (hw : Wf xs) : ∀ i, i ≤ xs.length → othF xs i = (xs.take i).filter fun x => !isF (keyV x)
  | 0, _ => rfl
  | i + 1, h => by
    have hi : i < xs.length := h
    unfold othF
    rw [oth_filter hw i (by omega), List.take_succ_eq_append_getElem hi, List.filter_append, kP_get hi, vP_get hi]
    have hx := hw _ (List.getElem_mem hi)
    split
    · rename_i h1
      simp [List.filter, h1]
    · rename_i h1
      simp only [Bool.not_eq_true] at h1
      rw [← hx]
      simp [List.filter, h1]
structure SoFacts (l : List Value) (x y : Int) (c : ByteArray) : Prop where
  m0 : (stkF 1 l nmA x 0).2 = 0
  n0 : (stkF 1 (stkF 1 l nmA x 0).1 nmB' y 0).2 = 0
  u0 : (stkF 1 l nmB' y 0).2 = 0
  v0 : (stkF 1 (stkF 1 l nmB' y 0).1 nmA x 0).2 = 0
  mR : RightL (stkF 1 l nmA x 0).1
  nR : RightL (stkF 1 (stkF 1 l nmA x 0).1 nmB' y 0).1
  uR : RightL (stkF 1 l nmB' y 0).1
  nv : (stkF 1 (stkF 1 l nmA x 0).1 nmB' y 0).1 = (stkF 1 (stkF 1 l nmB' y 0).1 nmA x 0).1
  bok : bokF (stkF 1 (stkF 1 l nmA x 0).1 nmB' y 0).1 = true
  bck : bckF (stkF 1 (stkF 1 l nmA x 0).1 nmB' y 0).1 = x + y
  len : (stkF 1 (stkF 1 l nmA x 0).1 nmB' y 0).1.length = l.length + 2
  mem : ∀ z ∈ l, z ∈ (stkF 1 (stkF 1 l nmA x 0).1 nmB' y 0).1
  odd : bokF (setF (stkF 1 (stkF 1 l nmA x 0).1 nmB' y 0).1 (keyS c) qB) = false
  oddR : RightL (setF (stkF 1 (stkF 1 l nmA x 0).1 nmB' y 0).1 (keyS c) qB)
theorem so_facts {l : List Value} {x y : Int} {c : ByteArray} (hR : RightL l) (hl : l.length ≤ 12) (hn : ∀ z ∈ l, isF (keyV z) = false) (hx : 0 ≤ x ∧ x ≤ 1000) (hy : 0 ≤ y ∧ y ≤ 1000) (hc : lenB c ≤ 14) : SoFacts l x y c := by
  have kA : ∀ z ∈ l, keyV z ≠ keyS nmA := fun z hz e => by have := hn z hz; rw [e, keyS_is] at this; cases this
  have kB : ∀ z ∈ l, keyV z ≠ keyS nmB' := fun z hz e => by have := hn z hz; rw [e, keyS_is] at this; cases this
  have hs := sum_none0 hn
  have hab : keyS nmA ≠ keyS nmB' := by
    intro e
    have := congrArg (fun b => b.data.toList) e
    simp only [keyS_list] at this
    revert this; decide
  have m := delg_new (nm := nmA) (x := x) hR (by omega) rfl (by decide) kA (by omega) hs (by omega)
  have u := delg_new (nm := nmB') (x := y) hR (by omega) rfl (by decide) kB (by omega) hs (by omega)
  have n := delg_new (nm := nmB') (x := y) m.right (by rw [m.len]; omega) rfl (by decide) (fun z hz => by
    rcases (m.mem z).1 hz with rfl | hz
    · exact hab
    · exact kB z hz) (by omega) m.sum (by omega)
  have v := delg_new (nm := nmA) (x := x) u.right (by rw [u.len]; omega) rfl (by decide) (fun z hz => by
    rcases (u.mem z).1 hz with rfl | hz
    · exact fun e => hab e.symm
    · exact kA z hz) (by omega) u.sum (by omega)
  have hK : KeyOk (keyS c) := keyOk_of (by rw [keyS_len]; omega)
  have hm : mayF (keyS c) qB = true := may_key hK (by decide)
  have e1 : (stkF 1 l nmA x 0).1 = setF l (keyS nmA) (recB x 0) := by rw [m.eq]
  have e2 : (stkF 1 l nmB' y 0).1 = setF l (keyS nmB') (recB y 0) := by rw [u.eq]
  have e3 : (stkF 1 (stkF 1 l nmA x 0).1 nmB' y 0).1 = setF (setF l (keyS nmA) (recB x 0)) (keyS nmB') (recB y 0) := by rw [e1, n.eq]
  have e4 : (stkF 1 (stkF 1 l nmB' y 0).1 nmA x 0).1 = setF (setF l (keyS nmB') (recB y 0)) (keyS nmA) (recB x 0) := by rw [e2, v.eq]
  obtain ⟨o1, o2⟩ := set_room (K := keyS c) (v := qB) n.right hm (by rw [decide_eq_true (by rw [n.len, m.len]; omega)]; simp)
  refine ⟨by rw [m.eq], by rw [e1, n.eq], by rw [u.eq], by rw [e2, v.eq], by rw [e1]; exact m.right, by rw [e3]; exact n.right, by rw [e2]; exact u.right, ?_, ?_, ?_, by rw [e3, n.len, m.len], fun z hz => ?_, ?_, ?_⟩
  · rw [e3, e4]
    refine ord_ext ((right_iff _).1 n.right.1).2.1 ((right_iff _).1 v.right.1).2.1 fun z => ?_
    rw [n.mem, m.mem, v.mem, u.mem]
    constructor
    · rintro (h | h | h)
      · exact .inr (.inl h)
      · exact .inl h
      · exact .inr (.inr h)
    · rintro (h | h | h)
      · exact .inr (.inl h)
      · exact .inl h
      · exact .inr (.inr h)
  · rw [e3, bok_sum, n.sum]; simp only; rw [decide_eq_true (by omega)]
  · rw [e3, bck_sum, n.sum]; simp only; rw [if_pos (by omega)]; omega
  · rw [e3]; exact (n.mem z).2 (.inr ((m.mem z).2 (.inr hz)))
  · rw [e3]; exact bok_bad o2 hK.is rfl
  · rw [e3]; exact o1
end Go.Proofs.Ytecdmdglkkeidaa
end
section
namespace Go.Proofs.Ytecdmdglkkeidaa
open Go.RowKit Go.Abs Go
noncomputable section
variable (S : Sy) (g : KvF) (t : StF)
def intsOkS (d : List Value) : Prop := ∀ i, S.nlt i (S.len d) → inI S (S.dint (S.get zI d i))
def pickP : PF := pf (.cons cIs (.cons cI64 .nil)) (fun d => intsOkS S d.1 ∧ S.ile 0 d.2.1 ∧ S.ile d.2.1 1000000) [zI] fun d => [mk (.int .i64 (t.pick d.1 d.2.1))]
def pickCon : Con := conL [(15, withinC S)]
structure SpL where
  l : List Value
  o : List Value
  i : Int
def spSh : Shape := ⟨slotsOf 181 [(1, .one (.zero (.deep zI))), (2, .one (.zero (.deep zI))), (3, .one (.zero (.deep zI))), (4, .one (.zero (.deep zI))), (5, .one (.zero .hole)), (13, .one (.zero (.deep zP))), (14, .one (.zero (.deep zP))), (15, .one (.zero .hole))], []⟩
def spLs (ks ms qs bs : List Value) (raw : ByteArray) (I : SpL → Prop) (m : SpL → Nat) : Loops := loop1 { D := SpL, sh := spSh, rho := fun _ => [], fills := fun d => [.dl ks, .dl ms, .dl qs, .dl bs, .val (.string raw), .dl d.l, .dl d.o, .val (.int .i64 d.i)], I := I, m := m } 0
def spCon : Con := conL [(14, pcon (pairsP S g)), (15, pcon (withinP S g)), (16, pcon (pickP S t)), (9, pcon (delgP S t)), (11, pcon (rwdP S t)), (10, pcon (slaP S t)), (17, pcon (rstkP S t)), (12, pcon (bckP S t)), (18, pcon (rbckP S t)), (19, pcon (sameP S g)), (20, pcon (rdP S t)), (21, pcon (qrdP S t)), (3, closedC (.bool true))]
def spP : PF := pf (.cons cIs (.cons cIs (.cons cIs (.cons cIs (.cons cIs (.cons cS .nil)))))) (fun _ => True) [.bool false] fun _ => [.bool true]
/-- StakeOthers. -/
structure SoA where
  r : List Value
  n : Int
  i : Int
structure SoB where
  n : Int
  i : Int
def soSh : Shape := ⟨slotsOf 161 [(1, .one (.zero .hole)), (2, .one (.zero .hole)), (3, .one (.zero .hole)), (9, .one (.zero (.osl 0 zP))), (33, .one (.zero (.deep zP))), (34, .one (.zero .hole)), (35, .one (.zero .hole))], [some .tok]⟩
def soSh2 : Shape := ⟨slotsOf 161 [(9, .one (.zero (.deep zP))), (12, .one (.zero .hole)), (13, .one (.zero .hole)), (15, .one (.zero .hole)), (16, .one (.zero (.deep zP))), (17, .one (.zero .hole)), (19, .one (.zero .hole)), (20, .one (.zero (.deep zP))), (21, .one (.zero .hole)), (22, .one (.zero .hole)), (23, .one (.zero .boo)), (27, .one (.zero .boo)), (95, .one (.zero (.deep zP))), (96, .one (.zero .hole)), (97, .one (.zero .hole))], []⟩
/-- What the second loop keeps. -/
structure SoK where
  l : List Value
  x : Int
  y : Int
  e : Int
  nl : List Value
  f : Int
  gg : Int
  v : List Value
  h : Int
  k : Int
  ok : Bool
  no : Bool
def soLs (ps : List Value) (a b c : Int) (K : SoK) (I : SoA → Prop) (m : SoA → Nat) (J : SoB → Prop) (q : SoB → Nat) : Loops := fun id =>
  if id = 0 then some [{ D := SoA, sh := soSh, rho := soSh.find 0, fills := fun d => [.val (.int .i64 a), .val (.int .i64 b), .val (.int .i64 c), .dl d.r, .dl ps, .val (.int .i64 d.n), .val (.int .i64 d.i)], I := I, m := m }] else
  if id = 2 then some [{ D := SoB, sh := soSh2, rho := fun _ => [], fills := fun d => [.dl K.l, .val (.int .i64 K.x), .val (.int .i64 K.y), .val (.int .i64 K.e), .dl K.nl, .val (.int .i64 K.f), .val (.int .i64 K.gg), .dl K.v, .val (.int .i64 K.h), .val (.int .i64 K.k), .val (.bool K.ok), .val (.bool K.no), .dl K.l, .val (.int .i64 d.n), .val (.int .i64 d.i)], I := J, m := q }] else none
def soCon : Con := conL [(14, pcon (pairsP S g)), (15, pcon (withinP S g)), (25, pcon (keyP S g)), (9, pcon (delgP S t)), (12, pcon (bckP S t)), (24, pcon (setP S g)), (26, pcon (getP S g)), (19, pcon (sameP S g)), (3, closedC (.bool true))]
def soP : PF := pf (.cons cIs (.cons cI64 (.cons cI64 (.cons cI64 .nil)))) (fun _ => True) [.bool false] fun _ => [.bool true]
end
end Go.Proofs.Ytecdmdglkkeidaa
end
section
namespace Go.Proofs.Ytecdmdglkkeidaa
open Go.Abs Go
def so_vc_L1 (g : KvF) (t : StF) (a : Int) (b : Int) (K : SoK) (J : SoB → Prop) (q : SoB → Nat) (d14 : SoA) : Prop :=
  (∃ (d20 : SoB), (([(Filler.dl (K.l)), (Filler.val (Value.int IntKind.i64 (K.x))), (Filler.val (Value.int IntKind.i64 (K.y))), (Filler.val (Value.int IntKind.i64 (K.e))), (Filler.dl (K.nl)), (Filler.val (Value.int IntKind.i64 (K.f))), (Filler.val (Value.int IntKind.i64 (K.gg))), (Filler.dl (K.v)), (Filler.val (Value.int IntKind.i64 (K.h))), (Filler.val (Value.int IntKind.i64 (K.k))), (Filler.val (Value.bool (K.ok))), (Filler.val (Value.bool (K.no))), (Filler.dl (K.l)), (Filler.val (Value.int IntKind.i64 (d20.n))), (Filler.val (Value.int IntKind.i64 (d20.i)))] = [(Filler.dl (d14.r)), (Filler.val (Value.int IntKind.i64 (g.wi a (0 : Int) (1000 : Int)))), (Filler.val (Value.int IntKind.i64 (g.wi b (0 : Int) (1000 : Int)))), (Filler.val (Value.int IntKind.i64 (t.ster (1 : Int) (d14.r) (ByteArray.mk (Array.mk [(97 : UInt8)])) (g.wi a (0 : Int) (1000 : Int)) (0 : Int)))), (Filler.dl (t.stk (1 : Int) (t.stk (1 : Int) (d14.r) (ByteArray.mk (Array.mk [(97 : UInt8)])) (g.wi a (0 : Int) (1000 : Int)) (0 : Int)) (ByteArray.mk (Array.mk [(98 : UInt8)])) (g.wi b (0 : Int) (1000 : Int)) (0 : Int))), (Filler.val (Value.int IntKind.i64 (t.ster (1 : Int) (t.stk (1 : Int) (d14.r) (ByteArray.mk (Array.mk [(97 : UInt8)])) (g.wi a (0 : Int) (1000 : Int)) (0 : Int)) (ByteArray.mk (Array.mk [(98 : UInt8)])) (g.wi b (0 : Int) (1000 : Int)) (0 : Int)))), (Filler.val (Value.int IntKind.i64 (t.ster (1 : Int) (d14.r) (ByteArray.mk (Array.mk [(98 : UInt8)])) (g.wi b (0 : Int) (1000 : Int)) (0 : Int)))), (Filler.dl (t.stk (1 : Int) (t.stk (1 : Int) (d14.r) (ByteArray.mk (Array.mk [(98 : UInt8)])) (g.wi b (0 : Int) (1000 : Int)) (0 : Int)) (ByteArray.mk (Array.mk [(97 : UInt8)])) (g.wi a (0 : Int) (1000 : Int)) (0 : Int))), (Filler.val (Value.int IntKind.i64 (t.ster (1 : Int) (t.stk (1 : Int) (d14.r) (ByteArray.mk (Array.mk [(98 : UInt8)])) (g.wi b (0 : Int) (1000 : Int)) (0 : Int)) (ByteArray.mk (Array.mk [(97 : UInt8)])) (g.wi a (0 : Int) (1000 : Int)) (0 : Int)))), (Filler.val (Value.int IntKind.i64 (t.bck (t.stk (1 : Int) (t.stk (1 : Int) (d14.r) (ByteArray.mk (Array.mk [(97 : UInt8)])) (g.wi a (0 : Int) (1000 : Int)) (0 : Int)) (ByteArray.mk (Array.mk [(98 : UInt8)])) (g.wi b (0 : Int) (1000 : Int)) (0 : Int))))), (Filler.val (Value.bool false)), (Filler.val (Value.bool false)), (Filler.dl (d14.r)), (Filler.val (Value.int IntKind.i64 ((List.length (d14.r)) : Int))), (Filler.val (Value.int IntKind.i64 (0 : Int)))]) ∧ ((J d20) ∧ (∀ (d21 : SoB), ((J d21) → ((((decide ((d21.i) < (d21.n))) = true) → ((((0 : Int) ≤ (d21.i)) ∧ ((d21.i) < ((List.length (K.l)) : Int))) ∧ (((List.length (K.nl)) ≤ 1000000) ∧ ((((g.fd (K.nl) (kP (K.l) (Int.toNat (d21.i)))) = true) → ((((!(std.seq (g.get (K.nl) (kP (K.l) (Int.toNat (d21.i)))) (vP (K.l) (Int.toNat (d21.i))))) = true) → ([(Value.bool false)] = [(Value.bool true)])) ∧ (((!(std.seq (g.get (K.nl) (kP (K.l) (Int.toNat (d21.i)))) (vP (K.l) (Int.toNat (d21.i))))) = false) → ((((-9223372036854775808 : Int) ≤ ((d21.i) + (1 : Int))) ∧ (((d21.i) + (1 : Int)) ≤ (9223372036854775807 : Int))) ∧ (∃ (d26 : SoB), (([(Filler.dl (K.l)), (Filler.val (Value.int IntKind.i64 (K.x))), (Filler.val (Value.int IntKind.i64 (K.y))), (Filler.val (Value.int IntKind.i64 (K.e))), (Filler.dl (K.nl)), (Filler.val (Value.int IntKind.i64 (K.f))), (Filler.val (Value.int IntKind.i64 (K.gg))), (Filler.dl (K.v)), (Filler.val (Value.int IntKind.i64 (K.h))), (Filler.val (Value.int IntKind.i64 (K.k))), (Filler.val (Value.bool (K.ok))), (Filler.val (Value.bool (K.no))), (Filler.dl (K.l)), (Filler.val (Value.int IntKind.i64 (d26.n))), (Filler.val (Value.int IntKind.i64 (d26.i)))] = [(Filler.dl (K.l)), (Filler.val (Value.int IntKind.i64 (K.x))), (Filler.val (Value.int IntKind.i64 (K.y))), (Filler.val (Value.int IntKind.i64 (K.e))), (Filler.dl (K.nl)), (Filler.val (Value.int IntKind.i64 (K.f))), (Filler.val (Value.int IntKind.i64 (K.gg))), (Filler.dl (K.v)), (Filler.val (Value.int IntKind.i64 (K.h))), (Filler.val (Value.int IntKind.i64 (K.k))), (Filler.val (Value.bool (K.ok))), (Filler.val (Value.bool (K.no))), (Filler.dl (K.l)), (Filler.val (Value.int IntKind.i64 (d21.n))), (Filler.val (Value.int IntKind.i64 ((d21.i) + (1 : Int))))]) ∧ ((Nat.le (Nat.succ (q d26)) (q d21)) ∧ (J d26)))))))) ∧ (((g.fd (K.nl) (kP (K.l) (Int.toNat (d21.i)))) = false) → ([(Value.bool false)] = [(Value.bool true)])))))) ∧ (((decide ((d21.i) < (d21.n))) = false) → (((((K.e) == (0 : Int)) = true) → (((((K.f) == (0 : Int)) = true) → (((((K.gg) == (0 : Int)) = true) → (((((K.h) == (0 : Int)) = true) → (((List.length (K.nl)) ≤ 1000000) ∧ ((((g.same (K.nl) (K.v)) = true) → ((((-9223372036854775808 : Int) ≤ ((K.x) + (K.y))) ∧ (((K.x) + (K.y)) ≤ (9223372036854775807 : Int))) ∧ (((((K.k) == ((K.x) + (K.y))) = true) → ((((K.ok) = true) → ((((K.no) = true) → ([(Value.bool false)] = [(Value.bool true)])) ∧ (((K.no) = false) → ((((-9223372036854775808 : Int) ≤ (((List.length (K.l)) : Int) + (2 : Int))) ∧ ((((List.length (K.l)) : Int) + (2 : Int)) ≤ (9223372036854775807 : Int))) ∧ ((((((List.length (K.nl)) : Int) == (((List.length (K.l)) : Int) + (2 : Int))) = true) → ([(Value.bool true)] = [(Value.bool true)])) ∧ (((((List.length (K.nl)) : Int) == (((List.length (K.l)) : Int) + (2 : Int))) = false) → ([(Value.bool false)] = [(Value.bool true)]))))))) ∧ (((K.ok) = false) → ([(Value.bool false)] = [(Value.bool true)])))) ∧ ((((K.k) == ((K.x) + (K.y))) = false) → ([(Value.bool false)] = [(Value.bool true)]))))) ∧ (((g.same (K.nl) (K.v)) = false) → ([(Value.bool false)] = [(Value.bool true)]))))) ∧ ((((K.h) == (0 : Int)) = false) → ([(Value.bool false)] = [(Value.bool true)])))) ∧ ((((K.gg) == (0 : Int)) = false) → ([(Value.bool false)] = [(Value.bool true)])))) ∧ ((((K.f) == (0 : Int)) = false) → ([(Value.bool false)] = [(Value.bool true)])))) ∧ ((((K.e) == (0 : Int)) = false) → ([(Value.bool false)] = [(Value.bool true)]))))))))))
def so_vc_L2 (g : KvF) (t : StF) (a : Int) (b : Int) (K : SoK) (J : SoB → Prop) (q : SoB → Nat) (d14 : SoA) : Prop :=
  (∃ (d20 : SoB), (([(Filler.dl (K.l)), (Filler.val (Value.int IntKind.i64 (K.x))), (Filler.val (Value.int IntKind.i64 (K.y))), (Filler.val (Value.int IntKind.i64 (K.e))), (Filler.dl (K.nl)), (Filler.val (Value.int IntKind.i64 (K.f))), (Filler.val (Value.int IntKind.i64 (K.gg))), (Filler.dl (K.v)), (Filler.val (Value.int IntKind.i64 (K.h))), (Filler.val (Value.int IntKind.i64 (K.k))), (Filler.val (Value.bool (K.ok))), (Filler.val (Value.bool (K.no))), (Filler.dl (K.l)), (Filler.val (Value.int IntKind.i64 (d20.n))), (Filler.val (Value.int IntKind.i64 (d20.i)))] = [(Filler.dl (d14.r)), (Filler.val (Value.int IntKind.i64 (g.wi a (0 : Int) (1000 : Int)))), (Filler.val (Value.int IntKind.i64 (g.wi b (0 : Int) (1000 : Int)))), (Filler.val (Value.int IntKind.i64 (t.ster (1 : Int) (d14.r) (ByteArray.mk (Array.mk [(97 : UInt8)])) (g.wi a (0 : Int) (1000 : Int)) (0 : Int)))), (Filler.dl (t.stk (1 : Int) (t.stk (1 : Int) (d14.r) (ByteArray.mk (Array.mk [(97 : UInt8)])) (g.wi a (0 : Int) (1000 : Int)) (0 : Int)) (ByteArray.mk (Array.mk [(98 : UInt8)])) (g.wi b (0 : Int) (1000 : Int)) (0 : Int))), (Filler.val (Value.int IntKind.i64 (t.ster (1 : Int) (t.stk (1 : Int) (d14.r) (ByteArray.mk (Array.mk [(97 : UInt8)])) (g.wi a (0 : Int) (1000 : Int)) (0 : Int)) (ByteArray.mk (Array.mk [(98 : UInt8)])) (g.wi b (0 : Int) (1000 : Int)) (0 : Int)))), (Filler.val (Value.int IntKind.i64 (t.ster (1 : Int) (d14.r) (ByteArray.mk (Array.mk [(98 : UInt8)])) (g.wi b (0 : Int) (1000 : Int)) (0 : Int)))), (Filler.dl (t.stk (1 : Int) (t.stk (1 : Int) (d14.r) (ByteArray.mk (Array.mk [(98 : UInt8)])) (g.wi b (0 : Int) (1000 : Int)) (0 : Int)) (ByteArray.mk (Array.mk [(97 : UInt8)])) (g.wi a (0 : Int) (1000 : Int)) (0 : Int))), (Filler.val (Value.int IntKind.i64 (t.ster (1 : Int) (t.stk (1 : Int) (d14.r) (ByteArray.mk (Array.mk [(98 : UInt8)])) (g.wi b (0 : Int) (1000 : Int)) (0 : Int)) (ByteArray.mk (Array.mk [(97 : UInt8)])) (g.wi a (0 : Int) (1000 : Int)) (0 : Int)))), (Filler.val (Value.int IntKind.i64 (t.bck (t.stk (1 : Int) (t.stk (1 : Int) (d14.r) (ByteArray.mk (Array.mk [(97 : UInt8)])) (g.wi a (0 : Int) (1000 : Int)) (0 : Int)) (ByteArray.mk (Array.mk [(98 : UInt8)])) (g.wi b (0 : Int) (1000 : Int)) (0 : Int))))), (Filler.val (Value.bool false)), (Filler.val (Value.bool true)), (Filler.dl (d14.r)), (Filler.val (Value.int IntKind.i64 ((List.length (d14.r)) : Int))), (Filler.val (Value.int IntKind.i64 (0 : Int)))]) ∧ ((J d20) ∧ (∀ (d21 : SoB), ((J d21) → ((((decide ((d21.i) < (d21.n))) = true) → ((((0 : Int) ≤ (d21.i)) ∧ ((d21.i) < ((List.length (K.l)) : Int))) ∧ (((List.length (K.nl)) ≤ 1000000) ∧ ((((g.fd (K.nl) (kP (K.l) (Int.toNat (d21.i)))) = true) → ((((!(std.seq (g.get (K.nl) (kP (K.l) (Int.toNat (d21.i)))) (vP (K.l) (Int.toNat (d21.i))))) = true) → ([(Value.bool false)] = [(Value.bool true)])) ∧ (((!(std.seq (g.get (K.nl) (kP (K.l) (Int.toNat (d21.i)))) (vP (K.l) (Int.toNat (d21.i))))) = false) → ((((-9223372036854775808 : Int) ≤ ((d21.i) + (1 : Int))) ∧ (((d21.i) + (1 : Int)) ≤ (9223372036854775807 : Int))) ∧ (∃ (d26 : SoB), (([(Filler.dl (K.l)), (Filler.val (Value.int IntKind.i64 (K.x))), (Filler.val (Value.int IntKind.i64 (K.y))), (Filler.val (Value.int IntKind.i64 (K.e))), (Filler.dl (K.nl)), (Filler.val (Value.int IntKind.i64 (K.f))), (Filler.val (Value.int IntKind.i64 (K.gg))), (Filler.dl (K.v)), (Filler.val (Value.int IntKind.i64 (K.h))), (Filler.val (Value.int IntKind.i64 (K.k))), (Filler.val (Value.bool (K.ok))), (Filler.val (Value.bool (K.no))), (Filler.dl (K.l)), (Filler.val (Value.int IntKind.i64 (d26.n))), (Filler.val (Value.int IntKind.i64 (d26.i)))] = [(Filler.dl (K.l)), (Filler.val (Value.int IntKind.i64 (K.x))), (Filler.val (Value.int IntKind.i64 (K.y))), (Filler.val (Value.int IntKind.i64 (K.e))), (Filler.dl (K.nl)), (Filler.val (Value.int IntKind.i64 (K.f))), (Filler.val (Value.int IntKind.i64 (K.gg))), (Filler.dl (K.v)), (Filler.val (Value.int IntKind.i64 (K.h))), (Filler.val (Value.int IntKind.i64 (K.k))), (Filler.val (Value.bool (K.ok))), (Filler.val (Value.bool (K.no))), (Filler.dl (K.l)), (Filler.val (Value.int IntKind.i64 (d21.n))), (Filler.val (Value.int IntKind.i64 ((d21.i) + (1 : Int))))]) ∧ ((Nat.le (Nat.succ (q d26)) (q d21)) ∧ (J d26)))))))) ∧ (((g.fd (K.nl) (kP (K.l) (Int.toNat (d21.i)))) = false) → ([(Value.bool false)] = [(Value.bool true)])))))) ∧ (((decide ((d21.i) < (d21.n))) = false) → (((((K.e) == (0 : Int)) = true) → (((((K.f) == (0 : Int)) = true) → (((((K.gg) == (0 : Int)) = true) → (((((K.h) == (0 : Int)) = true) → (((List.length (K.nl)) ≤ 1000000) ∧ ((((g.same (K.nl) (K.v)) = true) → ((((-9223372036854775808 : Int) ≤ ((K.x) + (K.y))) ∧ (((K.x) + (K.y)) ≤ (9223372036854775807 : Int))) ∧ (((((K.k) == ((K.x) + (K.y))) = true) → ((((K.ok) = true) → ((((K.no) = true) → ([(Value.bool false)] = [(Value.bool true)])) ∧ (((K.no) = false) → ((((-9223372036854775808 : Int) ≤ (((List.length (K.l)) : Int) + (2 : Int))) ∧ ((((List.length (K.l)) : Int) + (2 : Int)) ≤ (9223372036854775807 : Int))) ∧ ((((((List.length (K.nl)) : Int) == (((List.length (K.l)) : Int) + (2 : Int))) = true) → ([(Value.bool true)] = [(Value.bool true)])) ∧ (((((List.length (K.nl)) : Int) == (((List.length (K.l)) : Int) + (2 : Int))) = false) → ([(Value.bool false)] = [(Value.bool true)]))))))) ∧ (((K.ok) = false) → ([(Value.bool false)] = [(Value.bool true)])))) ∧ ((((K.k) == ((K.x) + (K.y))) = false) → ([(Value.bool false)] = [(Value.bool true)]))))) ∧ (((g.same (K.nl) (K.v)) = false) → ([(Value.bool false)] = [(Value.bool true)]))))) ∧ ((((K.h) == (0 : Int)) = false) → ([(Value.bool false)] = [(Value.bool true)])))) ∧ ((((K.gg) == (0 : Int)) = false) → ([(Value.bool false)] = [(Value.bool true)])))) ∧ ((((K.f) == (0 : Int)) = false) → ([(Value.bool false)] = [(Value.bool true)])))) ∧ ((((K.e) == (0 : Int)) = false) → ([(Value.bool false)] = [(Value.bool true)]))))))))))
def so_vc_L3 (g : KvF) (t : StF) (a : Int) (b : Int) (K : SoK) (J : SoB → Prop) (q : SoB → Nat) (d14 : SoA) : Prop :=
  (∃ (d20 : SoB), (([(Filler.dl (K.l)), (Filler.val (Value.int IntKind.i64 (K.x))), (Filler.val (Value.int IntKind.i64 (K.y))), (Filler.val (Value.int IntKind.i64 (K.e))), (Filler.dl (K.nl)), (Filler.val (Value.int IntKind.i64 (K.f))), (Filler.val (Value.int IntKind.i64 (K.gg))), (Filler.dl (K.v)), (Filler.val (Value.int IntKind.i64 (K.h))), (Filler.val (Value.int IntKind.i64 (K.k))), (Filler.val (Value.bool (K.ok))), (Filler.val (Value.bool (K.no))), (Filler.dl (K.l)), (Filler.val (Value.int IntKind.i64 (d20.n))), (Filler.val (Value.int IntKind.i64 (d20.i)))] = [(Filler.dl (d14.r)), (Filler.val (Value.int IntKind.i64 (g.wi a (0 : Int) (1000 : Int)))), (Filler.val (Value.int IntKind.i64 (g.wi b (0 : Int) (1000 : Int)))), (Filler.val (Value.int IntKind.i64 (t.ster (1 : Int) (d14.r) (ByteArray.mk (Array.mk [(97 : UInt8)])) (g.wi a (0 : Int) (1000 : Int)) (0 : Int)))), (Filler.dl (t.stk (1 : Int) (t.stk (1 : Int) (d14.r) (ByteArray.mk (Array.mk [(97 : UInt8)])) (g.wi a (0 : Int) (1000 : Int)) (0 : Int)) (ByteArray.mk (Array.mk [(98 : UInt8)])) (g.wi b (0 : Int) (1000 : Int)) (0 : Int))), (Filler.val (Value.int IntKind.i64 (t.ster (1 : Int) (t.stk (1 : Int) (d14.r) (ByteArray.mk (Array.mk [(97 : UInt8)])) (g.wi a (0 : Int) (1000 : Int)) (0 : Int)) (ByteArray.mk (Array.mk [(98 : UInt8)])) (g.wi b (0 : Int) (1000 : Int)) (0 : Int)))), (Filler.val (Value.int IntKind.i64 (t.ster (1 : Int) (d14.r) (ByteArray.mk (Array.mk [(98 : UInt8)])) (g.wi b (0 : Int) (1000 : Int)) (0 : Int)))), (Filler.dl (t.stk (1 : Int) (t.stk (1 : Int) (d14.r) (ByteArray.mk (Array.mk [(98 : UInt8)])) (g.wi b (0 : Int) (1000 : Int)) (0 : Int)) (ByteArray.mk (Array.mk [(97 : UInt8)])) (g.wi a (0 : Int) (1000 : Int)) (0 : Int))), (Filler.val (Value.int IntKind.i64 (t.ster (1 : Int) (t.stk (1 : Int) (d14.r) (ByteArray.mk (Array.mk [(98 : UInt8)])) (g.wi b (0 : Int) (1000 : Int)) (0 : Int)) (ByteArray.mk (Array.mk [(97 : UInt8)])) (g.wi a (0 : Int) (1000 : Int)) (0 : Int)))), (Filler.val (Value.int IntKind.i64 (t.bck (t.stk (1 : Int) (t.stk (1 : Int) (d14.r) (ByteArray.mk (Array.mk [(97 : UInt8)])) (g.wi a (0 : Int) (1000 : Int)) (0 : Int)) (ByteArray.mk (Array.mk [(98 : UInt8)])) (g.wi b (0 : Int) (1000 : Int)) (0 : Int))))), (Filler.val (Value.bool true)), (Filler.val (Value.bool false)), (Filler.dl (d14.r)), (Filler.val (Value.int IntKind.i64 ((List.length (d14.r)) : Int))), (Filler.val (Value.int IntKind.i64 (0 : Int)))]) ∧ ((J d20) ∧ (∀ (d21 : SoB), ((J d21) → ((((decide ((d21.i) < (d21.n))) = true) → ((((0 : Int) ≤ (d21.i)) ∧ ((d21.i) < ((List.length (K.l)) : Int))) ∧ (((List.length (K.nl)) ≤ 1000000) ∧ ((((g.fd (K.nl) (kP (K.l) (Int.toNat (d21.i)))) = true) → ((((!(std.seq (g.get (K.nl) (kP (K.l) (Int.toNat (d21.i)))) (vP (K.l) (Int.toNat (d21.i))))) = true) → ([(Value.bool false)] = [(Value.bool true)])) ∧ (((!(std.seq (g.get (K.nl) (kP (K.l) (Int.toNat (d21.i)))) (vP (K.l) (Int.toNat (d21.i))))) = false) → ((((-9223372036854775808 : Int) ≤ ((d21.i) + (1 : Int))) ∧ (((d21.i) + (1 : Int)) ≤ (9223372036854775807 : Int))) ∧ (∃ (d26 : SoB), (([(Filler.dl (K.l)), (Filler.val (Value.int IntKind.i64 (K.x))), (Filler.val (Value.int IntKind.i64 (K.y))), (Filler.val (Value.int IntKind.i64 (K.e))), (Filler.dl (K.nl)), (Filler.val (Value.int IntKind.i64 (K.f))), (Filler.val (Value.int IntKind.i64 (K.gg))), (Filler.dl (K.v)), (Filler.val (Value.int IntKind.i64 (K.h))), (Filler.val (Value.int IntKind.i64 (K.k))), (Filler.val (Value.bool (K.ok))), (Filler.val (Value.bool (K.no))), (Filler.dl (K.l)), (Filler.val (Value.int IntKind.i64 (d26.n))), (Filler.val (Value.int IntKind.i64 (d26.i)))] = [(Filler.dl (K.l)), (Filler.val (Value.int IntKind.i64 (K.x))), (Filler.val (Value.int IntKind.i64 (K.y))), (Filler.val (Value.int IntKind.i64 (K.e))), (Filler.dl (K.nl)), (Filler.val (Value.int IntKind.i64 (K.f))), (Filler.val (Value.int IntKind.i64 (K.gg))), (Filler.dl (K.v)), (Filler.val (Value.int IntKind.i64 (K.h))), (Filler.val (Value.int IntKind.i64 (K.k))), (Filler.val (Value.bool (K.ok))), (Filler.val (Value.bool (K.no))), (Filler.dl (K.l)), (Filler.val (Value.int IntKind.i64 (d21.n))), (Filler.val (Value.int IntKind.i64 ((d21.i) + (1 : Int))))]) ∧ ((Nat.le (Nat.succ (q d26)) (q d21)) ∧ (J d26)))))))) ∧ (((g.fd (K.nl) (kP (K.l) (Int.toNat (d21.i)))) = false) → ([(Value.bool false)] = [(Value.bool true)])))))) ∧ (((decide ((d21.i) < (d21.n))) = false) → (((((K.e) == (0 : Int)) = true) → (((((K.f) == (0 : Int)) = true) → (((((K.gg) == (0 : Int)) = true) → (((((K.h) == (0 : Int)) = true) → (((List.length (K.nl)) ≤ 1000000) ∧ ((((g.same (K.nl) (K.v)) = true) → ((((-9223372036854775808 : Int) ≤ ((K.x) + (K.y))) ∧ (((K.x) + (K.y)) ≤ (9223372036854775807 : Int))) ∧ (((((K.k) == ((K.x) + (K.y))) = true) → ((((K.ok) = true) → ((((K.no) = true) → ([(Value.bool false)] = [(Value.bool true)])) ∧ (((K.no) = false) → ((((-9223372036854775808 : Int) ≤ (((List.length (K.l)) : Int) + (2 : Int))) ∧ ((((List.length (K.l)) : Int) + (2 : Int)) ≤ (9223372036854775807 : Int))) ∧ ((((((List.length (K.nl)) : Int) == (((List.length (K.l)) : Int) + (2 : Int))) = true) → ([(Value.bool true)] = [(Value.bool true)])) ∧ (((((List.length (K.nl)) : Int) == (((List.length (K.l)) : Int) + (2 : Int))) = false) → ([(Value.bool false)] = [(Value.bool true)]))))))) ∧ (((K.ok) = false) → ([(Value.bool false)] = [(Value.bool true)])))) ∧ ((((K.k) == ((K.x) + (K.y))) = false) → ([(Value.bool false)] = [(Value.bool true)]))))) ∧ (((g.same (K.nl) (K.v)) = false) → ([(Value.bool false)] = [(Value.bool true)]))))) ∧ ((((K.h) == (0 : Int)) = false) → ([(Value.bool false)] = [(Value.bool true)])))) ∧ ((((K.gg) == (0 : Int)) = false) → ([(Value.bool false)] = [(Value.bool true)])))) ∧ ((((K.f) == (0 : Int)) = false) → ([(Value.bool false)] = [(Value.bool true)])))) ∧ ((((K.e) == (0 : Int)) = false) → ([(Value.bool false)] = [(Value.bool true)]))))))))))
def so_vc_L4 (g : KvF) (t : StF) (a : Int) (b : Int) (K : SoK) (J : SoB → Prop) (q : SoB → Nat) (d14 : SoA) : Prop :=
  (∃ (d20 : SoB), (([(Filler.dl (K.l)), (Filler.val (Value.int IntKind.i64 (K.x))), (Filler.val (Value.int IntKind.i64 (K.y))), (Filler.val (Value.int IntKind.i64 (K.e))), (Filler.dl (K.nl)), (Filler.val (Value.int IntKind.i64 (K.f))), (Filler.val (Value.int IntKind.i64 (K.gg))), (Filler.dl (K.v)), (Filler.val (Value.int IntKind.i64 (K.h))), (Filler.val (Value.int IntKind.i64 (K.k))), (Filler.val (Value.bool (K.ok))), (Filler.val (Value.bool (K.no))), (Filler.dl (K.l)), (Filler.val (Value.int IntKind.i64 (d20.n))), (Filler.val (Value.int IntKind.i64 (d20.i)))] = [(Filler.dl (d14.r)), (Filler.val (Value.int IntKind.i64 (g.wi a (0 : Int) (1000 : Int)))), (Filler.val (Value.int IntKind.i64 (g.wi b (0 : Int) (1000 : Int)))), (Filler.val (Value.int IntKind.i64 (t.ster (1 : Int) (d14.r) (ByteArray.mk (Array.mk [(97 : UInt8)])) (g.wi a (0 : Int) (1000 : Int)) (0 : Int)))), (Filler.dl (t.stk (1 : Int) (t.stk (1 : Int) (d14.r) (ByteArray.mk (Array.mk [(97 : UInt8)])) (g.wi a (0 : Int) (1000 : Int)) (0 : Int)) (ByteArray.mk (Array.mk [(98 : UInt8)])) (g.wi b (0 : Int) (1000 : Int)) (0 : Int))), (Filler.val (Value.int IntKind.i64 (t.ster (1 : Int) (t.stk (1 : Int) (d14.r) (ByteArray.mk (Array.mk [(97 : UInt8)])) (g.wi a (0 : Int) (1000 : Int)) (0 : Int)) (ByteArray.mk (Array.mk [(98 : UInt8)])) (g.wi b (0 : Int) (1000 : Int)) (0 : Int)))), (Filler.val (Value.int IntKind.i64 (t.ster (1 : Int) (d14.r) (ByteArray.mk (Array.mk [(98 : UInt8)])) (g.wi b (0 : Int) (1000 : Int)) (0 : Int)))), (Filler.dl (t.stk (1 : Int) (t.stk (1 : Int) (d14.r) (ByteArray.mk (Array.mk [(98 : UInt8)])) (g.wi b (0 : Int) (1000 : Int)) (0 : Int)) (ByteArray.mk (Array.mk [(97 : UInt8)])) (g.wi a (0 : Int) (1000 : Int)) (0 : Int))), (Filler.val (Value.int IntKind.i64 (t.ster (1 : Int) (t.stk (1 : Int) (d14.r) (ByteArray.mk (Array.mk [(98 : UInt8)])) (g.wi b (0 : Int) (1000 : Int)) (0 : Int)) (ByteArray.mk (Array.mk [(97 : UInt8)])) (g.wi a (0 : Int) (1000 : Int)) (0 : Int)))), (Filler.val (Value.int IntKind.i64 (t.bck (t.stk (1 : Int) (t.stk (1 : Int) (d14.r) (ByteArray.mk (Array.mk [(97 : UInt8)])) (g.wi a (0 : Int) (1000 : Int)) (0 : Int)) (ByteArray.mk (Array.mk [(98 : UInt8)])) (g.wi b (0 : Int) (1000 : Int)) (0 : Int))))), (Filler.val (Value.bool true)), (Filler.val (Value.bool true)), (Filler.dl (d14.r)), (Filler.val (Value.int IntKind.i64 ((List.length (d14.r)) : Int))), (Filler.val (Value.int IntKind.i64 (0 : Int)))]) ∧ ((J d20) ∧ (∀ (d21 : SoB), ((J d21) → ((((decide ((d21.i) < (d21.n))) = true) → ((((0 : Int) ≤ (d21.i)) ∧ ((d21.i) < ((List.length (K.l)) : Int))) ∧ (((List.length (K.nl)) ≤ 1000000) ∧ ((((g.fd (K.nl) (kP (K.l) (Int.toNat (d21.i)))) = true) → ((((!(std.seq (g.get (K.nl) (kP (K.l) (Int.toNat (d21.i)))) (vP (K.l) (Int.toNat (d21.i))))) = true) → ([(Value.bool false)] = [(Value.bool true)])) ∧ (((!(std.seq (g.get (K.nl) (kP (K.l) (Int.toNat (d21.i)))) (vP (K.l) (Int.toNat (d21.i))))) = false) → ((((-9223372036854775808 : Int) ≤ ((d21.i) + (1 : Int))) ∧ (((d21.i) + (1 : Int)) ≤ (9223372036854775807 : Int))) ∧ (∃ (d26 : SoB), (([(Filler.dl (K.l)), (Filler.val (Value.int IntKind.i64 (K.x))), (Filler.val (Value.int IntKind.i64 (K.y))), (Filler.val (Value.int IntKind.i64 (K.e))), (Filler.dl (K.nl)), (Filler.val (Value.int IntKind.i64 (K.f))), (Filler.val (Value.int IntKind.i64 (K.gg))), (Filler.dl (K.v)), (Filler.val (Value.int IntKind.i64 (K.h))), (Filler.val (Value.int IntKind.i64 (K.k))), (Filler.val (Value.bool (K.ok))), (Filler.val (Value.bool (K.no))), (Filler.dl (K.l)), (Filler.val (Value.int IntKind.i64 (d26.n))), (Filler.val (Value.int IntKind.i64 (d26.i)))] = [(Filler.dl (K.l)), (Filler.val (Value.int IntKind.i64 (K.x))), (Filler.val (Value.int IntKind.i64 (K.y))), (Filler.val (Value.int IntKind.i64 (K.e))), (Filler.dl (K.nl)), (Filler.val (Value.int IntKind.i64 (K.f))), (Filler.val (Value.int IntKind.i64 (K.gg))), (Filler.dl (K.v)), (Filler.val (Value.int IntKind.i64 (K.h))), (Filler.val (Value.int IntKind.i64 (K.k))), (Filler.val (Value.bool (K.ok))), (Filler.val (Value.bool (K.no))), (Filler.dl (K.l)), (Filler.val (Value.int IntKind.i64 (d21.n))), (Filler.val (Value.int IntKind.i64 ((d21.i) + (1 : Int))))]) ∧ ((Nat.le (Nat.succ (q d26)) (q d21)) ∧ (J d26)))))))) ∧ (((g.fd (K.nl) (kP (K.l) (Int.toNat (d21.i)))) = false) → ([(Value.bool false)] = [(Value.bool true)])))))) ∧ (((decide ((d21.i) < (d21.n))) = false) → (((((K.e) == (0 : Int)) = true) → (((((K.f) == (0 : Int)) = true) → (((((K.gg) == (0 : Int)) = true) → (((((K.h) == (0 : Int)) = true) → (((List.length (K.nl)) ≤ 1000000) ∧ ((((g.same (K.nl) (K.v)) = true) → ((((-9223372036854775808 : Int) ≤ ((K.x) + (K.y))) ∧ (((K.x) + (K.y)) ≤ (9223372036854775807 : Int))) ∧ (((((K.k) == ((K.x) + (K.y))) = true) → ((((K.ok) = true) → ((((K.no) = true) → ([(Value.bool false)] = [(Value.bool true)])) ∧ (((K.no) = false) → ((((-9223372036854775808 : Int) ≤ (((List.length (K.l)) : Int) + (2 : Int))) ∧ ((((List.length (K.l)) : Int) + (2 : Int)) ≤ (9223372036854775807 : Int))) ∧ ((((((List.length (K.nl)) : Int) == (((List.length (K.l)) : Int) + (2 : Int))) = true) → ([(Value.bool true)] = [(Value.bool true)])) ∧ (((((List.length (K.nl)) : Int) == (((List.length (K.l)) : Int) + (2 : Int))) = false) → ([(Value.bool false)] = [(Value.bool true)]))))))) ∧ (((K.ok) = false) → ([(Value.bool false)] = [(Value.bool true)])))) ∧ ((((K.k) == ((K.x) + (K.y))) = false) → ([(Value.bool false)] = [(Value.bool true)]))))) ∧ (((g.same (K.nl) (K.v)) = false) → ([(Value.bool false)] = [(Value.bool true)]))))) ∧ ((((K.h) == (0 : Int)) = false) → ([(Value.bool false)] = [(Value.bool true)])))) ∧ ((((K.gg) == (0 : Int)) = false) → ([(Value.bool false)] = [(Value.bool true)])))) ∧ ((((K.f) == (0 : Int)) = false) → ([(Value.bool false)] = [(Value.bool true)])))) ∧ ((((K.e) == (0 : Int)) = false) → ([(Value.bool false)] = [(Value.bool true)]))))))))))
def so_vc_L5 (g : KvF) (t : StF) (xs : List Value) (a : Int) (b : Int) (c : Int) (K : SoK) (I : SoA → Prop) (m : SoA → Nat) (J : SoB → Prop) (q : SoB → Nat) : Prop :=
  (∃ (d13 : SoA), (([(Filler.val (Value.int IntKind.i64 a)), (Filler.val (Value.int IntKind.i64 b)), (Filler.val (Value.int IntKind.i64 c)), (Filler.dl (d13.r)), (Filler.dl (g.pairs xs)), (Filler.val (Value.int IntKind.i64 (d13.n))), (Filler.val (Value.int IntKind.i64 (d13.i)))] = [(Filler.val (Value.int IntKind.i64 a)), (Filler.val (Value.int IntKind.i64 b)), (Filler.val (Value.int IntKind.i64 c)), (Filler.dl []), (Filler.dl (g.pairs xs)), (Filler.val (Value.int IntKind.i64 ((List.length (g.pairs xs)) : Int))), (Filler.val (Value.int IntKind.i64 (0 : Int)))]) ∧ ((I d13) ∧ (∀ (d14 : SoA), ((I d14) → ((((decide ((d14.i) < (d14.n))) = true) → ((((0 : Int) ≤ (d14.i)) ∧ ((d14.i) < ((List.length (g.pairs xs)) : Int))) ∧ ((((decide ((2 : Int) ≤ ((std.slen (kP (g.pairs xs) (Int.toNat (d14.i)))) : Int))) = true) → (((((0 : Int) ≤ (2 : Int)) ∧ ((2 : Int) ≤ ((std.slen (kP (g.pairs xs) (Int.toNat (d14.i)))) : Int))) ∧ True) ∧ ((((std.seq (std.ssub (kP (g.pairs xs) (Int.toNat (d14.i))) 0 (Int.toNat (2 : Int))) (ByteArray.mk (Array.mk [(115 : UInt8), (47 : UInt8)]))) = true) → ((((-9223372036854775808 : Int) ≤ ((d14.i) + (1 : Int))) ∧ (((d14.i) + (1 : Int)) ≤ (9223372036854775807 : Int))) ∧ (∃ (d19 : SoA), (([(Filler.val (Value.int IntKind.i64 a)), (Filler.val (Value.int IntKind.i64 b)), (Filler.val (Value.int IntKind.i64 c)), (Filler.dl (d19.r)), (Filler.dl (g.pairs xs)), (Filler.val (Value.int IntKind.i64 (d19.n))), (Filler.val (Value.int IntKind.i64 (d19.i)))] = [(Filler.val (Value.int IntKind.i64 a)), (Filler.val (Value.int IntKind.i64 b)), (Filler.val (Value.int IntKind.i64 c)), (Filler.dl (d14.r)), (Filler.dl (g.pairs xs)), (Filler.val (Value.int IntKind.i64 (d14.n))), (Filler.val (Value.int IntKind.i64 ((d14.i) + (1 : Int))))]) ∧ ((Nat.le (Nat.succ (m d19)) (m d14)) ∧ (I d19)))))) ∧ (((std.seq (std.ssub (kP (g.pairs xs) (Int.toNat (d14.i))) 0 (Int.toNat (2 : Int))) (ByteArray.mk (Array.mk [(115 : UInt8), (47 : UInt8)]))) = false) → ((((List.length ((d14.r) ++ [(Value.agg (Array.mk [(Value.string (kP (g.pairs xs) (Int.toNat (d14.i)))), (Value.string (vP (g.pairs xs) (Int.toNat (d14.i))))]))])) * 32) ≤ 140737488355328) ∧ ((((-9223372036854775808 : Int) ≤ ((d14.i) + (1 : Int))) ∧ (((d14.i) + (1 : Int)) ≤ (9223372036854775807 : Int))) ∧ (∃ (d19 : SoA), (([(Filler.val (Value.int IntKind.i64 a)), (Filler.val (Value.int IntKind.i64 b)), (Filler.val (Value.int IntKind.i64 c)), (Filler.dl (d19.r)), (Filler.dl (g.pairs xs)), (Filler.val (Value.int IntKind.i64 (d19.n))), (Filler.val (Value.int IntKind.i64 (d19.i)))] = [(Filler.val (Value.int IntKind.i64 a)), (Filler.val (Value.int IntKind.i64 b)), (Filler.val (Value.int IntKind.i64 c)), (Filler.dl ((d14.r) ++ [(Value.agg (Array.mk [(Value.string (kP (g.pairs xs) (Int.toNat (d14.i)))), (Value.string (vP (g.pairs xs) (Int.toNat (d14.i))))]))])), (Filler.dl (g.pairs xs)), (Filler.val (Value.int IntKind.i64 (d14.n))), (Filler.val (Value.int IntKind.i64 ((d14.i) + (1 : Int))))]) ∧ ((Nat.le (Nat.succ (m d19)) (m d14)) ∧ (I d19)))))))))) ∧ (((decide ((2 : Int) ≤ ((std.slen (kP (g.pairs xs) (Int.toNat (d14.i)))) : Int))) = false) → ((((List.length ((d14.r) ++ [(Value.agg (Array.mk [(Value.string (kP (g.pairs xs) (Int.toNat (d14.i)))), (Value.string (vP (g.pairs xs) (Int.toNat (d14.i))))]))])) * 32) ≤ 140737488355328) ∧ ((((-9223372036854775808 : Int) ≤ ((d14.i) + (1 : Int))) ∧ (((d14.i) + (1 : Int)) ≤ (9223372036854775807 : Int))) ∧ (∃ (d18 : SoA), (([(Filler.val (Value.int IntKind.i64 a)), (Filler.val (Value.int IntKind.i64 b)), (Filler.val (Value.int IntKind.i64 c)), (Filler.dl (d18.r)), (Filler.dl (g.pairs xs)), (Filler.val (Value.int IntKind.i64 (d18.n))), (Filler.val (Value.int IntKind.i64 (d18.i)))] = [(Filler.val (Value.int IntKind.i64 a)), (Filler.val (Value.int IntKind.i64 b)), (Filler.val (Value.int IntKind.i64 c)), (Filler.dl ((d14.r) ++ [(Value.agg (Array.mk [(Value.string (kP (g.pairs xs) (Int.toNat (d14.i)))), (Value.string (vP (g.pairs xs) (Int.toNat (d14.i))))]))])), (Filler.dl (g.pairs xs)), (Filler.val (Value.int IntKind.i64 (d14.n))), (Filler.val (Value.int IntKind.i64 ((d14.i) + (1 : Int))))]) ∧ ((Nat.le (Nat.succ (m d18)) (m d14)) ∧ (I d18)))))))))) ∧ (((decide ((d14.i) < (d14.n))) = false) → (((((-9223372036854775808 : Int) ≤ a) ∧ (a ≤ (9223372036854775807 : Int))) ∧ (((-1000000000000 : Int) ≤ (0 : Int)) ∧ (((0 : Int) ≤ (1000 : Int)) ∧ ((1000 : Int) ≤ (2000000000000 : Int))))) ∧ (((((-9223372036854775808 : Int) ≤ b) ∧ (b ≤ (9223372036854775807 : Int))) ∧ (((-1000000000000 : Int) ≤ (0 : Int)) ∧ (((0 : Int) ≤ (1000 : Int)) ∧ ((1000 : Int) ≤ (2000000000000 : Int))))) ∧ (((t.okl (d14.r)) ∧ (((std.slen (ByteArray.mk (Array.mk [(97 : UInt8)]))) ≤ 1000000) ∧ ((((-9223372036854775808 : Int) ≤ (g.wi a (0 : Int) (1000 : Int))) ∧ ((g.wi a (0 : Int) (1000 : Int)) ≤ (9223372036854775807 : Int))) ∧ (((-9223372036854775808 : Int) ≤ (0 : Int)) ∧ ((0 : Int) ≤ (9223372036854775807 : Int)))))) ∧ (((t.okl (t.stk (1 : Int) (d14.r) (ByteArray.mk (Array.mk [(97 : UInt8)])) (g.wi a (0 : Int) (1000 : Int)) (0 : Int))) ∧ (((std.slen (ByteArray.mk (Array.mk [(98 : UInt8)]))) ≤ 1000000) ∧ ((((-9223372036854775808 : Int) ≤ (g.wi b (0 : Int) (1000 : Int))) ∧ ((g.wi b (0 : Int) (1000 : Int)) ≤ (9223372036854775807 : Int))) ∧ (((-9223372036854775808 : Int) ≤ (0 : Int)) ∧ ((0 : Int) ≤ (9223372036854775807 : Int)))))) ∧ (((t.okl (d14.r)) ∧ (((std.slen (ByteArray.mk (Array.mk [(98 : UInt8)]))) ≤ 1000000) ∧ ((((-9223372036854775808 : Int) ≤ (g.wi b (0 : Int) (1000 : Int))) ∧ ((g.wi b (0 : Int) (1000 : Int)) ≤ (9223372036854775807 : Int))) ∧ (((-9223372036854775808 : Int) ≤ (0 : Int)) ∧ ((0 : Int) ≤ (9223372036854775807 : Int)))))) ∧ (((t.okl (t.stk (1 : Int) (d14.r) (ByteArray.mk (Array.mk [(98 : UInt8)])) (g.wi b (0 : Int) (1000 : Int)) (0 : Int))) ∧ (((std.slen (ByteArray.mk (Array.mk [(97 : UInt8)]))) ≤ 1000000) ∧ ((((-9223372036854775808 : Int) ≤ (g.wi a (0 : Int) (1000 : Int))) ∧ ((g.wi a (0 : Int) (1000 : Int)) ≤ (9223372036854775807 : Int))) ∧ (((-9223372036854775808 : Int) ≤ (0 : Int)) ∧ ((0 : Int) ≤ (9223372036854775807 : Int)))))) ∧ ((((List.length (t.stk (1 : Int) (t.stk (1 : Int) (d14.r) (ByteArray.mk (Array.mk [(97 : UInt8)])) (g.wi a (0 : Int) (1000 : Int)) (0 : Int)) (ByteArray.mk (Array.mk [(98 : UInt8)])) (g.wi b (0 : Int) (1000 : Int)) (0 : Int))) ≤ 1000000) ∧ (∀ (i17 : Nat), ((i17 < (List.length (t.stk (1 : Int) (t.stk (1 : Int) (d14.r) (ByteArray.mk (Array.mk [(97 : UInt8)])) (g.wi a (0 : Int) (1000 : Int)) (0 : Int)) (ByteArray.mk (Array.mk [(98 : UInt8)])) (g.wi b (0 : Int) (1000 : Int)) (0 : Int)))) → ((std.slen (vP (t.stk (1 : Int) (t.stk (1 : Int) (d14.r) (ByteArray.mk (Array.mk [(97 : UInt8)])) (g.wi a (0 : Int) (1000 : Int)) (0 : Int)) (ByteArray.mk (Array.mk [(98 : UInt8)])) (g.wi b (0 : Int) (1000 : Int)) (0 : Int)) i17)) ≤ 4000000)))) ∧ ((((t.bok (t.stk (1 : Int) (t.stk (1 : Int) (d14.r) (ByteArray.mk (Array.mk [(97 : UInt8)])) (g.wi a (0 : Int) (1000 : Int)) (0 : Int)) (ByteArray.mk (Array.mk [(98 : UInt8)])) (g.wi b (0 : Int) (1000 : Int)) (0 : Int))) = true) → ((((-9223372036854775808 : Int) ≤ c) ∧ (c ≤ (9223372036854775807 : Int))) ∧ ((((std.slen (ByteArray.mk (Array.mk [(115 : UInt8), (47 : UInt8)]))) + (std.slen (g.key c))) ≤ 9223372036854775807) ∧ (((List.length (t.stk (1 : Int) (t.stk (1 : Int) (d14.r) (ByteArray.mk (Array.mk [(97 : UInt8)])) (g.wi a (0 : Int) (1000 : Int)) (0 : Int)) (ByteArray.mk (Array.mk [(98 : UInt8)])) (g.wi b (0 : Int) (1000 : Int)) (0 : Int))) ≤ 1000000) ∧ ((((g.setok (t.stk (1 : Int) (t.stk (1 : Int) (d14.r) (ByteArray.mk (Array.mk [(97 : UInt8)])) (g.wi a (0 : Int) (1000 : Int)) (0 : Int)) (ByteArray.mk (Array.mk [(98 : UInt8)])) (g.wi b (0 : Int) (1000 : Int)) (0 : Int)) ((ByteArray.mk (Array.mk [(115 : UInt8), (47 : UInt8)])) ++ (g.key c)) (ByteArray.mk (Array.mk [(63 : UInt8)]))) = true) → ((((List.length (g.set (t.stk (1 : Int) (t.stk (1 : Int) (d14.r) (ByteArray.mk (Array.mk [(97 : UInt8)])) (g.wi a (0 : Int) (1000 : Int)) (0 : Int)) (ByteArray.mk (Array.mk [(98 : UInt8)])) (g.wi b (0 : Int) (1000 : Int)) (0 : Int)) ((ByteArray.mk (Array.mk [(115 : UInt8), (47 : UInt8)])) ++ (g.key c)) (ByteArray.mk (Array.mk [(63 : UInt8)])))) ≤ 1000000) ∧ (∀ (i19 : Nat), ((i19 < (List.length (g.set (t.stk (1 : Int) (t.stk (1 : Int) (d14.r) (ByteArray.mk (Array.mk [(97 : UInt8)])) (g.wi a (0 : Int) (1000 : Int)) (0 : Int)) (ByteArray.mk (Array.mk [(98 : UInt8)])) (g.wi b (0 : Int) (1000 : Int)) (0 : Int)) ((ByteArray.mk (Array.mk [(115 : UInt8), (47 : UInt8)])) ++ (g.key c)) (ByteArray.mk (Array.mk [(63 : UInt8)]))))) → ((std.slen (vP (g.set (t.stk (1 : Int) (t.stk (1 : Int) (d14.r) (ByteArray.mk (Array.mk [(97 : UInt8)])) (g.wi a (0 : Int) (1000 : Int)) (0 : Int)) (ByteArray.mk (Array.mk [(98 : UInt8)])) (g.wi b (0 : Int) (1000 : Int)) (0 : Int)) ((ByteArray.mk (Array.mk [(115 : UInt8), (47 : UInt8)])) ++ (g.key c)) (ByteArray.mk (Array.mk [(63 : UInt8)]))) i19)) ≤ 4000000)))) ∧ ((((t.bok (g.set (t.stk (1 : Int) (t.stk (1 : Int) (d14.r) (ByteArray.mk (Array.mk [(97 : UInt8)])) (g.wi a (0 : Int) (1000 : Int)) (0 : Int)) (ByteArray.mk (Array.mk [(98 : UInt8)])) (g.wi b (0 : Int) (1000 : Int)) (0 : Int)) ((ByteArray.mk (Array.mk [(115 : UInt8), (47 : UInt8)])) ++ (g.key c)) (ByteArray.mk (Array.mk [(63 : UInt8)])))) = true) → (so_vc_L4 g t a b K J q d14)) ∧ (((t.bok (g.set (t.stk (1 : Int) (t.stk (1 : Int) (d14.r) (ByteArray.mk (Array.mk [(97 : UInt8)])) (g.wi a (0 : Int) (1000 : Int)) (0 : Int)) (ByteArray.mk (Array.mk [(98 : UInt8)])) (g.wi b (0 : Int) (1000 : Int)) (0 : Int)) ((ByteArray.mk (Array.mk [(115 : UInt8), (47 : UInt8)])) ++ (g.key c)) (ByteArray.mk (Array.mk [(63 : UInt8)])))) = false) → (so_vc_L3 g t a b K J q d14))))) ∧ (((g.setok (t.stk (1 : Int) (t.stk (1 : Int) (d14.r) (ByteArray.mk (Array.mk [(97 : UInt8)])) (g.wi a (0 : Int) (1000 : Int)) (0 : Int)) (ByteArray.mk (Array.mk [(98 : UInt8)])) (g.wi b (0 : Int) (1000 : Int)) (0 : Int)) ((ByteArray.mk (Array.mk [(115 : UInt8), (47 : UInt8)])) ++ (g.key c)) (ByteArray.mk (Array.mk [(63 : UInt8)]))) = false) → ((((List.length (g.set (t.stk (1 : Int) (t.stk (1 : Int) (d14.r) (ByteArray.mk (Array.mk [(97 : UInt8)])) (g.wi a (0 : Int) (1000 : Int)) (0 : Int)) (ByteArray.mk (Array.mk [(98 : UInt8)])) (g.wi b (0 : Int) (1000 : Int)) (0 : Int)) ((ByteArray.mk (Array.mk [(115 : UInt8), (47 : UInt8)])) ++ (g.key c)) (ByteArray.mk (Array.mk [(63 : UInt8)])))) ≤ 1000000) ∧ (∀ (i19 : Nat), ((i19 < (List.length (g.set (t.stk (1 : Int) (t.stk (1 : Int) (d14.r) (ByteArray.mk (Array.mk [(97 : UInt8)])) (g.wi a (0 : Int) (1000 : Int)) (0 : Int)) (ByteArray.mk (Array.mk [(98 : UInt8)])) (g.wi b (0 : Int) (1000 : Int)) (0 : Int)) ((ByteArray.mk (Array.mk [(115 : UInt8), (47 : UInt8)])) ++ (g.key c)) (ByteArray.mk (Array.mk [(63 : UInt8)]))))) → ((std.slen (vP (g.set (t.stk (1 : Int) (t.stk (1 : Int) (d14.r) (ByteArray.mk (Array.mk [(97 : UInt8)])) (g.wi a (0 : Int) (1000 : Int)) (0 : Int)) (ByteArray.mk (Array.mk [(98 : UInt8)])) (g.wi b (0 : Int) (1000 : Int)) (0 : Int)) ((ByteArray.mk (Array.mk [(115 : UInt8), (47 : UInt8)])) ++ (g.key c)) (ByteArray.mk (Array.mk [(63 : UInt8)]))) i19)) ≤ 4000000)))) ∧ ((((t.bok (g.set (t.stk (1 : Int) (t.stk (1 : Int) (d14.r) (ByteArray.mk (Array.mk [(97 : UInt8)])) (g.wi a (0 : Int) (1000 : Int)) (0 : Int)) (ByteArray.mk (Array.mk [(98 : UInt8)])) (g.wi b (0 : Int) (1000 : Int)) (0 : Int)) ((ByteArray.mk (Array.mk [(115 : UInt8), (47 : UInt8)])) ++ (g.key c)) (ByteArray.mk (Array.mk [(63 : UInt8)])))) = true) → (so_vc_L4 g t a b K J q d14)) ∧ (((t.bok (g.set (t.stk (1 : Int) (t.stk (1 : Int) (d14.r) (ByteArray.mk (Array.mk [(97 : UInt8)])) (g.wi a (0 : Int) (1000 : Int)) (0 : Int)) (ByteArray.mk (Array.mk [(98 : UInt8)])) (g.wi b (0 : Int) (1000 : Int)) (0 : Int)) ((ByteArray.mk (Array.mk [(115 : UInt8), (47 : UInt8)])) ++ (g.key c)) (ByteArray.mk (Array.mk [(63 : UInt8)])))) = false) → (so_vc_L3 g t a b K J q d14)))))))))) ∧ (((t.bok (t.stk (1 : Int) (t.stk (1 : Int) (d14.r) (ByteArray.mk (Array.mk [(97 : UInt8)])) (g.wi a (0 : Int) (1000 : Int)) (0 : Int)) (ByteArray.mk (Array.mk [(98 : UInt8)])) (g.wi b (0 : Int) (1000 : Int)) (0 : Int))) = false) → ((((-9223372036854775808 : Int) ≤ c) ∧ (c ≤ (9223372036854775807 : Int))) ∧ ((((std.slen (ByteArray.mk (Array.mk [(115 : UInt8), (47 : UInt8)]))) + (std.slen (g.key c))) ≤ 9223372036854775807) ∧ (((List.length (t.stk (1 : Int) (t.stk (1 : Int) (d14.r) (ByteArray.mk (Array.mk [(97 : UInt8)])) (g.wi a (0 : Int) (1000 : Int)) (0 : Int)) (ByteArray.mk (Array.mk [(98 : UInt8)])) (g.wi b (0 : Int) (1000 : Int)) (0 : Int))) ≤ 1000000) ∧ ((((g.setok (t.stk (1 : Int) (t.stk (1 : Int) (d14.r) (ByteArray.mk (Array.mk [(97 : UInt8)])) (g.wi a (0 : Int) (1000 : Int)) (0 : Int)) (ByteArray.mk (Array.mk [(98 : UInt8)])) (g.wi b (0 : Int) (1000 : Int)) (0 : Int)) ((ByteArray.mk (Array.mk [(115 : UInt8), (47 : UInt8)])) ++ (g.key c)) (ByteArray.mk (Array.mk [(63 : UInt8)]))) = true) → ((((List.length (g.set (t.stk (1 : Int) (t.stk (1 : Int) (d14.r) (ByteArray.mk (Array.mk [(97 : UInt8)])) (g.wi a (0 : Int) (1000 : Int)) (0 : Int)) (ByteArray.mk (Array.mk [(98 : UInt8)])) (g.wi b (0 : Int) (1000 : Int)) (0 : Int)) ((ByteArray.mk (Array.mk [(115 : UInt8), (47 : UInt8)])) ++ (g.key c)) (ByteArray.mk (Array.mk [(63 : UInt8)])))) ≤ 1000000) ∧ (∀ (i19 : Nat), ((i19 < (List.length (g.set (t.stk (1 : Int) (t.stk (1 : Int) (d14.r) (ByteArray.mk (Array.mk [(97 : UInt8)])) (g.wi a (0 : Int) (1000 : Int)) (0 : Int)) (ByteArray.mk (Array.mk [(98 : UInt8)])) (g.wi b (0 : Int) (1000 : Int)) (0 : Int)) ((ByteArray.mk (Array.mk [(115 : UInt8), (47 : UInt8)])) ++ (g.key c)) (ByteArray.mk (Array.mk [(63 : UInt8)]))))) → ((std.slen (vP (g.set (t.stk (1 : Int) (t.stk (1 : Int) (d14.r) (ByteArray.mk (Array.mk [(97 : UInt8)])) (g.wi a (0 : Int) (1000 : Int)) (0 : Int)) (ByteArray.mk (Array.mk [(98 : UInt8)])) (g.wi b (0 : Int) (1000 : Int)) (0 : Int)) ((ByteArray.mk (Array.mk [(115 : UInt8), (47 : UInt8)])) ++ (g.key c)) (ByteArray.mk (Array.mk [(63 : UInt8)]))) i19)) ≤ 4000000)))) ∧ ((((t.bok (g.set (t.stk (1 : Int) (t.stk (1 : Int) (d14.r) (ByteArray.mk (Array.mk [(97 : UInt8)])) (g.wi a (0 : Int) (1000 : Int)) (0 : Int)) (ByteArray.mk (Array.mk [(98 : UInt8)])) (g.wi b (0 : Int) (1000 : Int)) (0 : Int)) ((ByteArray.mk (Array.mk [(115 : UInt8), (47 : UInt8)])) ++ (g.key c)) (ByteArray.mk (Array.mk [(63 : UInt8)])))) = true) → (so_vc_L2 g t a b K J q d14)) ∧ (((t.bok (g.set (t.stk (1 : Int) (t.stk (1 : Int) (d14.r) (ByteArray.mk (Array.mk [(97 : UInt8)])) (g.wi a (0 : Int) (1000 : Int)) (0 : Int)) (ByteArray.mk (Array.mk [(98 : UInt8)])) (g.wi b (0 : Int) (1000 : Int)) (0 : Int)) ((ByteArray.mk (Array.mk [(115 : UInt8), (47 : UInt8)])) ++ (g.key c)) (ByteArray.mk (Array.mk [(63 : UInt8)])))) = false) → (so_vc_L1 g t a b K J q d14))))) ∧ (((g.setok (t.stk (1 : Int) (t.stk (1 : Int) (d14.r) (ByteArray.mk (Array.mk [(97 : UInt8)])) (g.wi a (0 : Int) (1000 : Int)) (0 : Int)) (ByteArray.mk (Array.mk [(98 : UInt8)])) (g.wi b (0 : Int) (1000 : Int)) (0 : Int)) ((ByteArray.mk (Array.mk [(115 : UInt8), (47 : UInt8)])) ++ (g.key c)) (ByteArray.mk (Array.mk [(63 : UInt8)]))) = false) → ((((List.length (g.set (t.stk (1 : Int) (t.stk (1 : Int) (d14.r) (ByteArray.mk (Array.mk [(97 : UInt8)])) (g.wi a (0 : Int) (1000 : Int)) (0 : Int)) (ByteArray.mk (Array.mk [(98 : UInt8)])) (g.wi b (0 : Int) (1000 : Int)) (0 : Int)) ((ByteArray.mk (Array.mk [(115 : UInt8), (47 : UInt8)])) ++ (g.key c)) (ByteArray.mk (Array.mk [(63 : UInt8)])))) ≤ 1000000) ∧ (∀ (i19 : Nat), ((i19 < (List.length (g.set (t.stk (1 : Int) (t.stk (1 : Int) (d14.r) (ByteArray.mk (Array.mk [(97 : UInt8)])) (g.wi a (0 : Int) (1000 : Int)) (0 : Int)) (ByteArray.mk (Array.mk [(98 : UInt8)])) (g.wi b (0 : Int) (1000 : Int)) (0 : Int)) ((ByteArray.mk (Array.mk [(115 : UInt8), (47 : UInt8)])) ++ (g.key c)) (ByteArray.mk (Array.mk [(63 : UInt8)]))))) → ((std.slen (vP (g.set (t.stk (1 : Int) (t.stk (1 : Int) (d14.r) (ByteArray.mk (Array.mk [(97 : UInt8)])) (g.wi a (0 : Int) (1000 : Int)) (0 : Int)) (ByteArray.mk (Array.mk [(98 : UInt8)])) (g.wi b (0 : Int) (1000 : Int)) (0 : Int)) ((ByteArray.mk (Array.mk [(115 : UInt8), (47 : UInt8)])) ++ (g.key c)) (ByteArray.mk (Array.mk [(63 : UInt8)]))) i19)) ≤ 4000000)))) ∧ ((((t.bok (g.set (t.stk (1 : Int) (t.stk (1 : Int) (d14.r) (ByteArray.mk (Array.mk [(97 : UInt8)])) (g.wi a (0 : Int) (1000 : Int)) (0 : Int)) (ByteArray.mk (Array.mk [(98 : UInt8)])) (g.wi b (0 : Int) (1000 : Int)) (0 : Int)) ((ByteArray.mk (Array.mk [(115 : UInt8), (47 : UInt8)])) ++ (g.key c)) (ByteArray.mk (Array.mk [(63 : UInt8)])))) = true) → (so_vc_L2 g t a b K J q d14)) ∧ (((t.bok (g.set (t.stk (1 : Int) (t.stk (1 : Int) (d14.r) (ByteArray.mk (Array.mk [(97 : UInt8)])) (g.wi a (0 : Int) (1000 : Int)) (0 : Int)) (ByteArray.mk (Array.mk [(98 : UInt8)])) (g.wi b (0 : Int) (1000 : Int)) (0 : Int)) ((ByteArray.mk (Array.mk [(115 : UInt8), (47 : UInt8)])) ++ (g.key c)) (ByteArray.mk (Array.mk [(63 : UInt8)])))) = false) → (so_vc_L1 g t a b K J q d14)))))))))))))))))))))))))
set_option maxRecDepth 100000 in
theorem so_vc (g : KvF) (t : StF) (xs : List Value) (a b c : Int) (K : SoK) (I : SoA → Prop) (m : SoA → Nat) (J : SoB → Prop) (q : SoB → Nat) : runP std (soCon std g t) 90 (soLs (g.pairs xs) a b c K I m J q) soP 7 Try.f7 (xs, a, b, c, ()) =
  ((∀ (i13 : Nat), ((i13 < (List.length xs)) → (((-9223372036854775808 : Int) ≤ (eI xs i13)) ∧ ((eI xs i13) ≤ (9223372036854775807 : Int))))) ∧ (so_vc_L5 g t xs a b c K I m J q)) := by kernel_rfl
end Go.Proofs.Ytecdmdglkkeidaa
end
section
namespace Go.Proofs.Ytecdmdglkkeidaa
open Go.RowKit Go.Abs Go
theorem wi_run (n lo hi : Int) (_hn : -9223372036854775808 ≤ n ∧ n ≤ 9223372036854775807) (h1 : -1000000000000 ≤ lo) (h2 : lo ≤ hi) (h3 : hi ≤ 2000000000000) : runP std noCon 40 noL (withinP std kvF) 15 Try.f15 (n, lo, hi, ()) := by
  rw [within_vc]
  have hm : std.rem n ((hi - lo) + 1) = n.tmod (hi - lo + 1) := rfl
  rw [hm]
  have b1 := Int.emod_nonneg n (show hi - lo + 1 ≠ 0 by omega)
  have b2 := Int.emod_lt_of_pos n (show 0 < hi - lo + 1 by omega)
  have key : (0 ≤ n.tmod (hi - lo + 1) ∧ n.tmod (hi - lo + 1) = n % (hi - lo + 1)) ∨ (n.tmod (hi - lo + 1) < 0 ∧ n.tmod (hi - lo + 1) + (hi - lo + 1) = n % (hi - lo + 1)) := by
    have := Int.tmod_eq_emod (a := n) (b := hi - lo + 1)
    split at this <;> rename_i c
    · left; omega
    · by_cases z : n % (hi - lo + 1) = 0
      · exfalso
        exact c (.inr (Int.dvd_of_emod_eq_zero z))
      · right; omega
  generalize n.tmod (hi - lo + 1) = r at key ⊢
  have hw : kvF.wi n lo hi = lo + n % (hi - lo + 1) := rfl
  rw [hw]
  generalize n % (hi - lo + 1) = u at key b1 b2 ⊢
  refine ⟨by omega, by omega, by omega, fun h => ⟨by have := of_decide_eq_true h; omega, by have := of_decide_eq_true h; omega, by have := of_decide_eq_true h; omega, by have := of_decide_eq_true h; omega, ?_⟩, fun h => ⟨by have := of_decide_eq_false h; omega, ?_⟩⟩
  · have := of_decide_eq_true h
    rw [show lo + (r + hi - lo + 1) = lo + u by omega]
  · have := of_decide_eq_false h
    rw [show r = u by omega]
theorem wi_ok : PFOk Try.prog 15 (withinP std kvF) :=
  pf_ok (LS := fun _ => noL) Try.progOk (noCon_ok _) (inCallF_ok 60) (withinP std kvF) Try.func15 (show _ = some (bodyS Try.prog 15) by kernel_rfl) fun d hd => wi_run d.1 d.2.1 d.2.2.1 (inI_std hd.1) hd.2.1 hd.2.2.1 hd.2.2.2
theorem wi_in2 {n lo hi : Int} (h : lo ≤ hi) : lo ≤ kvF.wi n lo hi ∧ kvF.wi n lo hi ≤ hi := by
  have b1 := Int.emod_nonneg n (show hi - lo + 1 ≠ 0 by omega)
  have b2 := Int.emod_lt_of_pos n (show 0 < hi - lo + 1 by omega)
  show lo ≤ lo + n % (hi - lo + 1) ∧ lo + n % (hi - lo + 1) ≤ hi
  omega
def inR (n : Int) : Prop := -9223372036854775808 ≤ n ∧ n ≤ 9223372036854775807
theorem sl_ints {l : List Value} (hl : ∀ x ∈ l, RawOk zI x) : IntsOk l := fun i hi => by
  obtain ⟨m, e, hw⟩ := ints_ok hl i zI hi
  unfold eI
  rw [e]; exact i64_range hw
end Go.Proofs.Ytecdmdglkkeidaa
end
