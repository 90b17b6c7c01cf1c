/-
  CallsPlays: any pushes, any pops: what is taken, what comes, what waits; a copy is by itself.
-/
import Derived.Test.YtjflbgfmdgbifaaCl1
import Derived.Test.YtjflbgfmdgbifaaFw6
import Derived.Test.YtjflbgfmdgbifaaRows
section
namespace Go.Proofs.Ytjflbgfmdgbifaa
open Go.Abs Go
def cl_vc_L1 (u : ClF) (ns : List Value) (I : ClA → Prop) (m : ClA → Nat) (G : ClG → Prop) (w : ClG → Nat) (d18 : ClB) (d12 : ClA) : Prop :=
  (∃ (d26 : ClG), (([(Filler.dl ns), (Filler.dl (d26.w)), (Filler.val (Value.int IntKind.i64 (d26.i))), (Filler.dl (d26.al)), (Filler.val (Value.int IntKind.i64 (d26.n))), (Filler.val (Value.int IntKind.i64 (d26.j))), (Filler.dl (d26.q))] = [(Filler.dl ns), (Filler.dl ((d18.w) ++ (List.take ((Int.toNat (std.imin ((List.length (d18.ks)) : Int) ((8 : Int) - ((List.length (d18.w)) : Int)))) - 0) (List.drop 0 (d18.ks))))), (Filler.val (Value.int IntKind.i64 (d18.i))), (Filler.dl (u.cpy (u.pq (d18.q) (d18.ks)))), (Filler.val (Value.int IntKind.i64 ((List.length (u.cpy (u.pq (d18.q) (d18.ks)))) : Int))), (Filler.val (Value.int IntKind.i64 (0 : Int))), (Filler.dl (u.pq (d18.q) (d18.ks)))]) ∧ ((G d26) ∧ (∀ (d27 : ClG), ((G d27) → (([(Value.int IntKind.i64 (d27.i))] = [(Value.int IntKind.i64 (d26.i))]) → ((((decide ((d27.j) < (d27.n))) = true) → ((((0 : Int) ≤ (d27.j)) ∧ ((d27.j) < ((List.length (d27.al)) : Int))) ∧ ((((0 : Int) ≤ (d27.j)) ∧ ((d27.j) < ((List.length (d27.w)) : Int))) ∧ (((List.length (std.dels (std.fld (std.get zC (d27.al) (Int.toNat (d27.j))) 2))) ≤ 1000000) ∧ ((((u.sm (std.dint (std.fld (std.get zC (d27.al) (Int.toNat (d27.j))) 0)) (std.dint (std.fld (std.get zC (d27.al) (Int.toNat (d27.j))) 1)) (std.dels (std.fld (std.get zC (d27.al) (Int.toNat (d27.j))) 2)) (std.dint (std.fld (std.get zC (d27.w) (Int.toNat (d27.j))) 0)) (std.dint (std.fld (std.get zC (d27.w) (Int.toNat (d27.j))) 1)) (std.dels (std.fld (std.get zC (d27.w) (Int.toNat (d27.j))) 2))) = true) → ((((-9223372036854775808 : Int) ≤ ((d27.j) + (1 : Int))) ∧ (((d27.j) + (1 : Int)) ≤ (9223372036854775807 : Int))) ∧ (∃ (d32 : ClG), (([(Filler.dl ns), (Filler.dl (d32.w)), (Filler.val (Value.int IntKind.i64 (d32.i))), (Filler.dl (d32.al)), (Filler.val (Value.int IntKind.i64 (d32.n))), (Filler.val (Value.int IntKind.i64 (d32.j))), (Filler.dl (d32.q))] = [(Filler.dl ns), (Filler.dl (d27.w)), (Filler.val (Value.int IntKind.i64 (d27.i))), (Filler.dl (d27.al)), (Filler.val (Value.int IntKind.i64 (d27.n))), (Filler.val (Value.int IntKind.i64 ((d27.j) + (1 : Int)))), (Filler.dl (d27.q))]) ∧ ((Nat.le (Nat.succ (w d32)) (w d27)) ∧ (([(Value.int IntKind.i64 (d32.i))] = [(Value.int IntKind.i64 (d26.i))]) ∧ (G d32))))))) ∧ (((u.sm (std.dint (std.fld (std.get zC (d27.al) (Int.toNat (d27.j))) 0)) (std.dint (std.fld (std.get zC (d27.al) (Int.toNat (d27.j))) 1)) (std.dels (std.fld (std.get zC (d27.al) (Int.toNat (d27.j))) 2)) (std.dint (std.fld (std.get zC (d27.w) (Int.toNat (d27.j))) 0)) (std.dint (std.fld (std.get zC (d27.w) (Int.toNat (d27.j))) 1)) (std.dels (std.fld (std.get zC (d27.w) (Int.toNat (d27.j))) 2))) = false) → ([(Value.bool false)] = [(Value.bool true)]))))))) ∧ (((decide ((d27.j) < (d27.n))) = false) → ((((-9223372036854775808 : Int) ≤ ((d27.i) + (1 : Int))) ∧ (((d27.i) + (1 : Int)) ≤ (9223372036854775807 : Int))) ∧ (∃ (d31 : ClA), (([(Filler.dl ns), (Filler.dl (d31.w)), (Filler.val (Value.int IntKind.i64 (d31.i))), (Filler.dl (d31.q))] = [(Filler.dl ns), (Filler.dl (d27.w)), (Filler.val (Value.int IntKind.i64 ((d27.i) + (1 : Int)))), (Filler.dl (d27.q))]) ∧ ((Nat.le (Nat.succ (m d31)) (m d12)) ∧ (I d31)))))))))))))
def cl_vc_L2 (g : KvF) (u : ClF) (ns : List Value) (I : ClA → Prop) (m : ClA → Nat) (J : ClB → Prop) (q : ClB → Nat) (G : ClG → Prop) (w : ClG → Nat) (d12 : ClA) : Prop :=
  (∃ (d17 : ClB), (([(Filler.dl ns), (Filler.dl (d17.w)), (Filler.val (Value.int IntKind.i64 (d17.i))), (Filler.dl (d17.ks)), (Filler.val (Value.int IntKind.i64 (d17.n))), (Filler.val (Value.int IntKind.i64 (d17.j))), (Filler.dl (d17.q)), (Filler.dl (d17.c))] = [(Filler.dl ns), (Filler.dl (d12.w)), (Filler.val (Value.int IntKind.i64 (d12.i))), (Filler.dl []), (Filler.val (Value.int IntKind.i64 (g.wi (std.quo (eI ns (Int.toNat (d12.i))) (3 : Int)) (0 : Int) (4 : Int)))), (Filler.val (Value.int IntKind.i64 (0 : Int))), (Filler.dl (d12.q)), (Filler.dl (u.cpy (d12.q)))]) ∧ ((J d17) ∧ (∀ (d18 : ClB), ((J d18) → (([(Value.int IntKind.i64 (d18.i))] = [(Value.int IntKind.i64 (d17.i))]) → ((((decide ((d18.j) < (d18.n))) = true) → ((∀ (i22 : Nat), ((i22 < (List.length [(Value.int IntKind.i64 (d18.i)), (Value.int IntKind.i64 (d18.j))])) → (((-9223372036854775808 : Int) ≤ (eI [(Value.int IntKind.i64 (d18.i)), (Value.int IntKind.i64 (d18.j))] i22)) ∧ ((eI [(Value.int IntKind.i64 (d18.i)), (Value.int IntKind.i64 (d18.j))] i22) ≤ (9223372036854775807 : Int))))) ∧ ((((List.length ((d18.ks) ++ [(Value.agg (Array.mk [(Value.int IntKind.i64 (d18.i)), (Value.int IntKind.i64 (d18.j)), (dsl zP (g.pairs [(Value.int IntKind.i64 (d18.i)), (Value.int IntKind.i64 (d18.j))]))]))])) * 40) ≤ 140737488355328) ∧ ((((-9223372036854775808 : Int) ≤ ((d18.j) + (1 : Int))) ∧ (((d18.j) + (1 : Int)) ≤ (9223372036854775807 : Int))) ∧ (∃ (d22 : ClB), (([(Filler.dl ns), (Filler.dl (d22.w)), (Filler.val (Value.int IntKind.i64 (d22.i))), (Filler.dl (d22.ks)), (Filler.val (Value.int IntKind.i64 (d22.n))), (Filler.val (Value.int IntKind.i64 (d22.j))), (Filler.dl (d22.q)), (Filler.dl (d22.c))] = [(Filler.dl ns), (Filler.dl (d18.w)), (Filler.val (Value.int IntKind.i64 (d18.i))), (Filler.dl ((d18.ks) ++ [(Value.agg (Array.mk [(Value.int IntKind.i64 (d18.i)), (Value.int IntKind.i64 (d18.j)), (dsl zP (g.pairs [(Value.int IntKind.i64 (d18.i)), (Value.int IntKind.i64 (d18.j))]))]))])), (Filler.val (Value.int IntKind.i64 (d18.n))), (Filler.val (Value.int IntKind.i64 ((d18.j) + (1 : Int)))), (Filler.dl (d18.q)), (Filler.dl (d18.c))]) ∧ ((Nat.le (Nat.succ (q d22)) (q d18)) ∧ (([(Value.int IntKind.i64 (d22.i))] = [(Value.int IntKind.i64 (d17.i))]) ∧ (J d22))))))))) ∧ (((decide ((d18.j) < (d18.n))) = false) → ((((-9223372036854775808 : Int) ≤ ((8 : Int) - ((List.length (d18.w)) : Int))) ∧ (((8 : Int) - ((List.length (d18.w)) : Int)) ≤ (9223372036854775807 : Int))) ∧ ((((List.length (d18.q)) ≤ 8) ∧ (((List.length (d18.ks)) ≤ 1000000) ∧ ((u.okC (d18.ks)) ∧ (u.okC (d18.q))))) ∧ ((((!((u.pn (d18.q) (d18.ks)) == (std.imin ((List.length (d18.ks)) : Int) ((8 : Int) - ((List.length (d18.w)) : Int))))) = true) → ([(Value.bool false)] = [(Value.bool true)])) ∧ (((!((u.pn (d18.q) (d18.ks)) == (std.imin ((List.length (d18.ks)) : Int) ((8 : Int) - ((List.length (d18.w)) : Int))))) = false) → ((((List.length (d18.w)) * 40) ≤ 140737488355328) ∧ (((((0 : Int) ≤ (std.imin ((List.length (d18.ks)) : Int) ((8 : Int) - ((List.length (d18.w)) : Int)))) ∧ ((std.imin ((List.length (d18.ks)) : Int) ((8 : Int) - ((List.length (d18.w)) : Int))) ≤ ((List.length (d18.ks)) : Int))) ∧ True) ∧ ((((List.length ((d18.w) ++ (List.take ((Int.toNat (std.imin ((List.length (d18.ks)) : Int) ((8 : Int) - ((List.length (d18.w)) : Int)))) - 0) (List.drop 0 (d18.ks))))) * 40) ≤ 140737488355328) ∧ (((List.length (d18.c)) ≤ 1000000) ∧ ((((List.length (u.ot (d18.c))) ≤ 8) ∧ (((List.length [(Value.agg (Array.mk [(Value.int IntKind.i64 (99 : Int)), (Value.int IntKind.i64 (0 : Int)), zPs]))]) ≤ 1000000) ∧ ((u.okC [(Value.agg (Array.mk [(Value.int IntKind.i64 (99 : Int)), (Value.int IntKind.i64 (0 : Int)), zPs]))]) ∧ (u.okC (u.ot (d18.c)))))) ∧ ((u.okC (u.pq (d18.q) (d18.ks))) ∧ ((((!(((List.length (u.cpy (u.pq (d18.q) (d18.ks)))) : Int) == (((List.length ((d18.w) ++ (List.take ((Int.toNat (std.imin ((List.length (d18.ks)) : Int) ((8 : Int) - ((List.length (d18.w)) : Int)))) - 0) (List.drop 0 (d18.ks))))) : Nat) : Int))) = true) → ([(Value.bool false)] = [(Value.bool true)])) ∧ (((!(((List.length (u.cpy (u.pq (d18.q) (d18.ks)))) : Int) == (((List.length ((d18.w) ++ (List.take ((Int.toNat (std.imin ((List.length (d18.ks)) : Int) ((8 : Int) - ((List.length (d18.w)) : Int)))) - 0) (List.drop 0 (d18.ks))))) : Nat) : Int))) = false) → ((((!(((List.length (u.pq (d18.q) (d18.ks))) : Int) == (((List.length ((d18.w) ++ (List.take ((Int.toNat (std.imin ((List.length (d18.ks)) : Int) ((8 : Int) - ((List.length (d18.w)) : Int)))) - 0) (List.drop 0 (d18.ks))))) : Nat) : Int))) = true) → ([(Value.bool false)] = [(Value.bool true)])) ∧ (((!(((List.length (u.pq (d18.q) (d18.ks))) : Int) == (((List.length ((d18.w) ++ (List.take ((Int.toNat (std.imin ((List.length (d18.ks)) : Int) ((8 : Int) - ((List.length (d18.w)) : Int)))) - 0) (List.drop 0 (d18.ks))))) : Nat) : Int))) = false) → ((((-9223372036854775808 : Int) ≤ ((8 : Int) - ((List.length (u.pq (d18.q) (d18.ks))) : Int))) ∧ (((8 : Int) - ((List.length (u.pq (d18.q) (d18.ks))) : Int)) ≤ (9223372036854775807 : Int))) ∧ ((((-9223372036854775808 : Int) ≤ ((8 : Int) - (((List.length ((d18.w) ++ (List.take ((Int.toNat (std.imin ((List.length (d18.ks)) : Int) ((8 : Int) - ((List.length (d18.w)) : Int)))) - 0) (List.drop 0 (d18.ks))))) : Nat) : Int))) ∧ (((8 : Int) - (((List.length ((d18.w) ++ (List.take ((Int.toNat (std.imin ((List.length (d18.ks)) : Int) ((8 : Int) - ((List.length (d18.w)) : Int)))) - 0) (List.drop 0 (d18.ks))))) : Nat) : Int)) ≤ (9223372036854775807 : Int))) ∧ ((((!(((8 : Int) - ((List.length (u.pq (d18.q) (d18.ks))) : Int)) == ((8 : Int) - (((List.length ((d18.w) ++ (List.take ((Int.toNat (std.imin ((List.length (d18.ks)) : Int) ((8 : Int) - ((List.length (d18.w)) : Int)))) - 0) (List.drop 0 (d18.ks))))) : Nat) : Int)))) = true) → ([(Value.bool false)] = [(Value.bool true)])) ∧ (((!(((8 : Int) - ((List.length (u.pq (d18.q) (d18.ks))) : Int)) == ((8 : Int) - (((List.length ((d18.w) ++ (List.take ((Int.toNat (std.imin ((List.length (d18.ks)) : Int) ((8 : Int) - ((List.length (d18.w)) : Int)))) - 0) (List.drop 0 (d18.ks))))) : Nat) : Int)))) = false) → (cl_vc_L1 u ns I m G w d18 d12)))))))))))))))))))))))))))
def cl_vc_L3 (u : ClF) (ns : List Value) (I : ClA → Prop) (m : ClA → Nat) (G : ClG → Prop) (w : ClG → Nat) (d12 : ClA) : Prop :=
  (∃ (d23 : ClG), (([(Filler.dl ns), (Filler.dl (d23.w)), (Filler.val (Value.int IntKind.i64 (d23.i))), (Filler.dl (d23.al)), (Filler.val (Value.int IntKind.i64 (d23.n))), (Filler.val (Value.int IntKind.i64 (d23.j))), (Filler.dl (d23.q))] = [(Filler.dl ns), (Filler.dl (d12.w)), (Filler.val (Value.int IntKind.i64 (d12.i))), (Filler.dl (u.cpy (u.ot (d12.q)))), (Filler.val (Value.int IntKind.i64 ((List.length (u.cpy (u.ot (d12.q)))) : Int))), (Filler.val (Value.int IntKind.i64 (0 : Int))), (Filler.dl (u.ot (d12.q)))]) ∧ ((G d23) ∧ (∀ (d24 : ClG), ((G d24) → (([(Value.int IntKind.i64 (d24.i))] = [(Value.int IntKind.i64 (d23.i))]) → ((((decide ((d24.j) < (d24.n))) = true) → ((((0 : Int) ≤ (d24.j)) ∧ ((d24.j) < ((List.length (d24.al)) : Int))) ∧ ((((0 : Int) ≤ (d24.j)) ∧ ((d24.j) < ((List.length (d24.w)) : Int))) ∧ (((List.length (std.dels (std.fld (std.get zC (d24.al) (Int.toNat (d24.j))) 2))) ≤ 1000000) ∧ ((((u.sm (std.dint (std.fld (std.get zC (d24.al) (Int.toNat (d24.j))) 0)) (std.dint (std.fld (std.get zC (d24.al) (Int.toNat (d24.j))) 1)) (std.dels (std.fld (std.get zC (d24.al) (Int.toNat (d24.j))) 2)) (std.dint (std.fld (std.get zC (d24.w) (Int.toNat (d24.j))) 0)) (std.dint (std.fld (std.get zC (d24.w) (Int.toNat (d24.j))) 1)) (std.dels (std.fld (std.get zC (d24.w) (Int.toNat (d24.j))) 2))) = true) → ((((-9223372036854775808 : Int) ≤ ((d24.j) + (1 : Int))) ∧ (((d24.j) + (1 : Int)) ≤ (9223372036854775807 : Int))) ∧ (∃ (d29 : ClG), (([(Filler.dl ns), (Filler.dl (d29.w)), (Filler.val (Value.int IntKind.i64 (d29.i))), (Filler.dl (d29.al)), (Filler.val (Value.int IntKind.i64 (d29.n))), (Filler.val (Value.int IntKind.i64 (d29.j))), (Filler.dl (d29.q))] = [(Filler.dl ns), (Filler.dl (d24.w)), (Filler.val (Value.int IntKind.i64 (d24.i))), (Filler.dl (d24.al)), (Filler.val (Value.int IntKind.i64 (d24.n))), (Filler.val (Value.int IntKind.i64 ((d24.j) + (1 : Int)))), (Filler.dl (d24.q))]) ∧ ((Nat.le (Nat.succ (w d29)) (w d24)) ∧ (([(Value.int IntKind.i64 (d29.i))] = [(Value.int IntKind.i64 (d23.i))]) ∧ (G d29))))))) ∧ (((u.sm (std.dint (std.fld (std.get zC (d24.al) (Int.toNat (d24.j))) 0)) (std.dint (std.fld (std.get zC (d24.al) (Int.toNat (d24.j))) 1)) (std.dels (std.fld (std.get zC (d24.al) (Int.toNat (d24.j))) 2)) (std.dint (std.fld (std.get zC (d24.w) (Int.toNat (d24.j))) 0)) (std.dint (std.fld (std.get zC (d24.w) (Int.toNat (d24.j))) 1)) (std.dels (std.fld (std.get zC (d24.w) (Int.toNat (d24.j))) 2))) = false) → ([(Value.bool false)] = [(Value.bool true)]))))))) ∧ (((decide ((d24.j) < (d24.n))) = false) → ((((-9223372036854775808 : Int) ≤ ((d24.i) + (1 : Int))) ∧ (((d24.i) + (1 : Int)) ≤ (9223372036854775807 : Int))) ∧ (∃ (d28 : ClA), (([(Filler.dl ns), (Filler.dl (d28.w)), (Filler.val (Value.int IntKind.i64 (d28.i))), (Filler.dl (d28.q))] = [(Filler.dl ns), (Filler.dl (d24.w)), (Filler.val (Value.int IntKind.i64 ((d24.i) + (1 : Int)))), (Filler.dl (d24.q))]) ∧ ((Nat.le (Nat.succ (m d28)) (m d12)) ∧ (I d28)))))))))))))
def cl_vc_L4 (u : ClF) (ns : List Value) (I : ClA → Prop) (m : ClA → Nat) (G : ClG → Prop) (w : ClG → Nat) (d12 : ClA) : Prop :=
  (∃ (d23 : ClG), (([(Filler.dl ns), (Filler.dl (d23.w)), (Filler.val (Value.int IntKind.i64 (d23.i))), (Filler.dl (d23.al)), (Filler.val (Value.int IntKind.i64 (d23.n))), (Filler.val (Value.int IntKind.i64 (d23.j))), (Filler.dl (d23.q))] = [(Filler.dl ns), (Filler.dl (List.take ((List.length (d12.w)) - (Int.toNat (1 : Int))) (List.drop (Int.toNat (1 : Int)) (d12.w)))), (Filler.val (Value.int IntKind.i64 (d12.i))), (Filler.dl (u.cpy (u.ot (d12.q)))), (Filler.val (Value.int IntKind.i64 ((List.length (u.cpy (u.ot (d12.q)))) : Int))), (Filler.val (Value.int IntKind.i64 (0 : Int))), (Filler.dl (u.ot (d12.q)))]) ∧ ((G d23) ∧ (∀ (d24 : ClG), ((G d24) → (([(Value.int IntKind.i64 (d24.i))] = [(Value.int IntKind.i64 (d23.i))]) → ((((decide ((d24.j) < (d24.n))) = true) → ((((0 : Int) ≤ (d24.j)) ∧ ((d24.j) < ((List.length (d24.al)) : Int))) ∧ ((((0 : Int) ≤ (d24.j)) ∧ ((d24.j) < ((List.length (d24.w)) : Int))) ∧ (((List.length (std.dels (std.fld (std.get zC (d24.al) (Int.toNat (d24.j))) 2))) ≤ 1000000) ∧ ((((u.sm (std.dint (std.fld (std.get zC (d24.al) (Int.toNat (d24.j))) 0)) (std.dint (std.fld (std.get zC (d24.al) (Int.toNat (d24.j))) 1)) (std.dels (std.fld (std.get zC (d24.al) (Int.toNat (d24.j))) 2)) (std.dint (std.fld (std.get zC (d24.w) (Int.toNat (d24.j))) 0)) (std.dint (std.fld (std.get zC (d24.w) (Int.toNat (d24.j))) 1)) (std.dels (std.fld (std.get zC (d24.w) (Int.toNat (d24.j))) 2))) = true) → ((((-9223372036854775808 : Int) ≤ ((d24.j) + (1 : Int))) ∧ (((d24.j) + (1 : Int)) ≤ (9223372036854775807 : Int))) ∧ (∃ (d29 : ClG), (([(Filler.dl ns), (Filler.dl (d29.w)), (Filler.val (Value.int IntKind.i64 (d29.i))), (Filler.dl (d29.al)), (Filler.val (Value.int IntKind.i64 (d29.n))), (Filler.val (Value.int IntKind.i64 (d29.j))), (Filler.dl (d29.q))] = [(Filler.dl ns), (Filler.dl (d24.w)), (Filler.val (Value.int IntKind.i64 (d24.i))), (Filler.dl (d24.al)), (Filler.val (Value.int IntKind.i64 (d24.n))), (Filler.val (Value.int IntKind.i64 ((d24.j) + (1 : Int)))), (Filler.dl (d24.q))]) ∧ ((Nat.le (Nat.succ (w d29)) (w d24)) ∧ (([(Value.int IntKind.i64 (d29.i))] = [(Value.int IntKind.i64 (d23.i))]) ∧ (G d29))))))) ∧ (((u.sm (std.dint (std.fld (std.get zC (d24.al) (Int.toNat (d24.j))) 0)) (std.dint (std.fld (std.get zC (d24.al) (Int.toNat (d24.j))) 1)) (std.dels (std.fld (std.get zC (d24.al) (Int.toNat (d24.j))) 2)) (std.dint (std.fld (std.get zC (d24.w) (Int.toNat (d24.j))) 0)) (std.dint (std.fld (std.get zC (d24.w) (Int.toNat (d24.j))) 1)) (std.dels (std.fld (std.get zC (d24.w) (Int.toNat (d24.j))) 2))) = false) → ([(Value.bool false)] = [(Value.bool true)]))))))) ∧ (((decide ((d24.j) < (d24.n))) = false) → ((((-9223372036854775808 : Int) ≤ ((d24.i) + (1 : Int))) ∧ (((d24.i) + (1 : Int)) ≤ (9223372036854775807 : Int))) ∧ (∃ (d28 : ClA), (([(Filler.dl ns), (Filler.dl (d28.w)), (Filler.val (Value.int IntKind.i64 (d28.i))), (Filler.dl (d28.q))] = [(Filler.dl ns), (Filler.dl (d24.w)), (Filler.val (Value.int IntKind.i64 ((d24.i) + (1 : Int)))), (Filler.dl (d24.q))]) ∧ ((Nat.le (Nat.succ (m d28)) (m d12)) ∧ (I d28)))))))))))))
def cl_vc_L5 (g : KvF) (u : ClF) (ns : List Value) (I : ClA → Prop) (m : ClA → Nat) (J : ClB → Prop) (q : ClB → Nat) (G : ClG → Prop) (w : ClG → Nat) : Prop :=
  (∃ (d11 : ClA), (([(Filler.dl ns), (Filler.dl (d11.w)), (Filler.val (Value.int IntKind.i64 (d11.i))), (Filler.dl (d11.q))] = [(Filler.dl ns), (Filler.dl []), (Filler.val (Value.int IntKind.i64 (0 : Int))), (Filler.dl [])]) ∧ ((I d11) ∧ (∀ (d12 : ClA), ((I d12) → ((((decide ((d12.i) < ((List.length ns) : Int))) = true) → ((((decide ((d12.i) < (30 : Int))) = true) → ((u.okC (d12.q)) ∧ ((((0 : Int) ≤ (d12.i)) ∧ ((d12.i) < ((List.length ns) : Int))) ∧ (((0 : Int) < (3 : Int)) ∧ (((((std.rem (eI ns (Int.toNat (d12.i))) (3 : Int)) == (2 : Int)) = true) → (((List.length (d12.q)) ≤ 1000000) ∧ ((((u.ob (d12.q)) = true) → ((((decide ((0 : Int) < ((List.length (d12.w)) : Int))) = true) → ((((0 : Int) ≤ (0 : Int)) ∧ ((0 : Int) < ((List.length (d12.w)) : Int))) ∧ (((List.length (u.op (d12.q))) ≤ 1000000) ∧ ((((u.sm (u.oq (d12.q)) (u.oh (d12.q)) (u.op (d12.q)) (std.dint (std.fld (std.get zC (d12.w) (Int.toNat (0 : Int))) 0)) (std.dint (std.fld (std.get zC (d12.w) (Int.toNat (0 : Int))) 1)) (std.dels (std.fld (std.get zC (d12.w) (Int.toNat (0 : Int))) 2))) = true) → ((True ∧ (((0 : Int) ≤ (1 : Int)) ∧ ((1 : Int) ≤ ((List.length (d12.w)) : Int)))) ∧ (((List.length (u.cpy (d12.q))) ≤ 1000000) ∧ ((((List.length (u.ot (u.cpy (d12.q)))) ≤ 8) ∧ (((List.length [(Value.agg (Array.mk [(Value.int IntKind.i64 (99 : Int)), (Value.int IntKind.i64 (0 : Int)), zPs]))]) ≤ 1000000) ∧ ((u.okC [(Value.agg (Array.mk [(Value.int IntKind.i64 (99 : Int)), (Value.int IntKind.i64 (0 : Int)), zPs]))]) ∧ (u.okC (u.ot (u.cpy (d12.q))))))) ∧ ((u.okC (u.ot (d12.q))) ∧ ((((!(((List.length (u.cpy (u.ot (d12.q)))) : Int) == (((List.length (List.take ((List.length (d12.w)) - (Int.toNat (1 : Int))) (List.drop (Int.toNat (1 : Int)) (d12.w)))) : Nat) : Int))) = true) → ([(Value.bool false)] = [(Value.bool true)])) ∧ (((!(((List.length (u.cpy (u.ot (d12.q)))) : Int) == (((List.length (List.take ((List.length (d12.w)) - (Int.toNat (1 : Int))) (List.drop (Int.toNat (1 : Int)) (d12.w)))) : Nat) : Int))) = false) → ((((!(((List.length (u.ot (d12.q))) : Int) == (((List.length (List.take ((List.length (d12.w)) - (Int.toNat (1 : Int))) (List.drop (Int.toNat (1 : Int)) (d12.w)))) : Nat) : Int))) = true) → ([(Value.bool false)] = [(Value.bool true)])) ∧ (((!(((List.length (u.ot (d12.q))) : Int) == (((List.length (List.take ((List.length (d12.w)) - (Int.toNat (1 : Int))) (List.drop (Int.toNat (1 : Int)) (d12.w)))) : Nat) : Int))) = false) → ((((-9223372036854775808 : Int) ≤ ((8 : Int) - ((List.length (u.ot (d12.q))) : Int))) ∧ (((8 : Int) - ((List.length (u.ot (d12.q))) : Int)) ≤ (9223372036854775807 : Int))) ∧ ((((-9223372036854775808 : Int) ≤ ((8 : Int) - (((List.length (List.take ((List.length (d12.w)) - (Int.toNat (1 : Int))) (List.drop (Int.toNat (1 : Int)) (d12.w)))) : Nat) : Int))) ∧ (((8 : Int) - (((List.length (List.take ((List.length (d12.w)) - (Int.toNat (1 : Int))) (List.drop (Int.toNat (1 : Int)) (d12.w)))) : Nat) : Int)) ≤ (9223372036854775807 : Int))) ∧ ((((!(((8 : Int) - ((List.length (u.ot (d12.q))) : Int)) == ((8 : Int) - (((List.length (List.take ((List.length (d12.w)) - (Int.toNat (1 : Int))) (List.drop (Int.toNat (1 : Int)) (d12.w)))) : Nat) : Int)))) = true) → ([(Value.bool false)] = [(Value.bool true)])) ∧ (((!(((8 : Int) - ((List.length (u.ot (d12.q))) : Int)) == ((8 : Int) - (((List.length (List.take ((List.length (d12.w)) - (Int.toNat (1 : Int))) (List.drop (Int.toNat (1 : Int)) (d12.w)))) : Nat) : Int)))) = false) → (cl_vc_L4 u ns I m G w d12)))))))))))))) ∧ (((u.sm (u.oq (d12.q)) (u.oh (d12.q)) (u.op (d12.q)) (std.dint (std.fld (std.get zC (d12.w) (Int.toNat (0 : Int))) 0)) (std.dint (std.fld (std.get zC (d12.w) (Int.toNat (0 : Int))) 1)) (std.dels (std.fld (std.get zC (d12.w) (Int.toNat (0 : Int))) 2))) = false) → ([(Value.bool false)] = [(Value.bool true)])))))) ∧ (((decide ((0 : Int) < ((List.length (d12.w)) : Int))) = false) → ([(Value.bool false)] = [(Value.bool true)])))) ∧ (((u.ob (d12.q)) = false) → ((((decide ((0 : Int) < ((List.length (d12.w)) : Int))) = true) → ([(Value.bool false)] = [(Value.bool true)])) ∧ (((decide ((0 : Int) < ((List.length (d12.w)) : Int))) = false) → (((List.length (u.op (d12.q))) ≤ 1000000) ∧ ((((u.sm (u.oq (d12.q)) (u.oh (d12.q)) (u.op (d12.q)) (0 : Int) (0 : Int) []) = true) → (((List.length (u.cpy (d12.q))) ≤ 1000000) ∧ ((((List.length (u.ot (u.cpy (d12.q)))) ≤ 8) ∧ (((List.length [(Value.agg (Array.mk [(Value.int IntKind.i64 (99 : Int)), (Value.int IntKind.i64 (0 : Int)), zPs]))]) ≤ 1000000) ∧ ((u.okC [(Value.agg (Array.mk [(Value.int IntKind.i64 (99 : Int)), (Value.int IntKind.i64 (0 : Int)), zPs]))]) ∧ (u.okC (u.ot (u.cpy (d12.q))))))) ∧ ((u.okC (u.ot (d12.q))) ∧ ((((!(((List.length (u.cpy (u.ot (d12.q)))) : Int) == ((List.length (d12.w)) : Int))) = true) → ([(Value.bool false)] = [(Value.bool true)])) ∧ (((!(((List.length (u.cpy (u.ot (d12.q)))) : Int) == ((List.length (d12.w)) : Int))) = false) → ((((!(((List.length (u.ot (d12.q))) : Int) == ((List.length (d12.w)) : Int))) = true) → ([(Value.bool false)] = [(Value.bool true)])) ∧ (((!(((List.length (u.ot (d12.q))) : Int) == ((List.length (d12.w)) : Int))) = false) → ((((-9223372036854775808 : Int) ≤ ((8 : Int) - ((List.length (u.ot (d12.q))) : Int))) ∧ (((8 : Int) - ((List.length (u.ot (d12.q))) : Int)) ≤ (9223372036854775807 : Int))) ∧ ((((-9223372036854775808 : Int) ≤ ((8 : Int) - ((List.length (d12.w)) : Int))) ∧ (((8 : Int) - ((List.length (d12.w)) : Int)) ≤ (9223372036854775807 : Int))) ∧ ((((!(((8 : Int) - ((List.length (u.ot (d12.q))) : Int)) == ((8 : Int) - ((List.length (d12.w)) : Int)))) = true) → ([(Value.bool false)] = [(Value.bool true)])) ∧ (((!(((8 : Int) - ((List.length (u.ot (d12.q))) : Int)) == ((8 : Int) - ((List.length (d12.w)) : Int)))) = false) → (cl_vc_L3 u ns I m G w d12))))))))))))) ∧ (((u.sm (u.oq (d12.q)) (u.oh (d12.q)) (u.op (d12.q)) (0 : Int) (0 : Int) []) = false) → ([(Value.bool false)] = [(Value.bool true)])))))))))) ∧ ((((std.rem (eI ns (Int.toNat (d12.i))) (3 : Int)) == (2 : Int)) = false) → ((((0 : Int) ≤ (d12.i)) ∧ ((d12.i) < ((List.length ns) : Int))) ∧ ((((0 : Int) < (3 : Int)) ∧ (((-9223372036854775808 : Int) ≤ (eI ns (Int.toNat (d12.i)))) ∧ ((eI ns (Int.toNat (d12.i))) ≤ (9223372036854775807 : Int)))) ∧ (((((-9223372036854775808 : Int) ≤ (std.quo (eI ns (Int.toNat (d12.i))) (3 : Int))) ∧ ((std.quo (eI ns (Int.toNat (d12.i))) (3 : Int)) ≤ (9223372036854775807 : Int))) ∧ (((-1000000000000 : Int) ≤ (0 : Int)) ∧ (((0 : Int) ≤ (4 : Int)) ∧ ((4 : Int) ≤ (2000000000000 : Int))))) ∧ (cl_vc_L2 g u ns I m J q G w d12)))))))))) ∧ (((decide ((d12.i) < (30 : Int))) = false) → ([(Value.bool true)] = [(Value.bool true)])))) ∧ (((decide ((d12.i) < ((List.length ns) : Int))) = false) → ([(Value.bool true)] = [(Value.bool true)]))))))))
set_option maxRecDepth 100000 in
theorem cl_vc (g : KvF) (u : ClF) (ns : List Value) (I : ClA → Prop) (m : ClA → Nat) (J : ClB → Prop) (q : ClB → Nat) (G : ClG → Prop) (w : ClG → Nat) : runP std (clCon std g u) 90 (clLs ns I m J q G w) clP 6 Try.f6 (ns, ()) =
  (cl_vc_L5 g u ns I m J q G w) := by kernel_rfl
end Go.Proofs.Ytjflbgfmdgbifaa
end
section
namespace Go.Proofs.Ytjflbgfmdgbifaa
open Go Go.Abs Go.RowKit Go.ChangeShapes Go.WideShapes Go.ChangeAt
set_option maxRecDepth 100000
def clLp (u : ClF) (ns : List Value) (I : ClA → Prop) (m : ClA → Nat) (G : ClG → Prop) (w : ClG → Nat) (W Q : List Value) (i0 : Int) (k0 : Nat) : Prop :=
  (∃ (d23 : ClG), (([(Filler.dl ns), (Filler.dl (d23.w)), (Filler.val (Value.int IntKind.i64 (d23.i))), (Filler.dl (d23.al)), (Filler.val (Value.int IntKind.i64 (d23.n))), (Filler.val (Value.int IntKind.i64 (d23.j))), (Filler.dl (d23.q))] = [(Filler.dl ns), (Filler.dl W), (Filler.val (Value.int IntKind.i64 i0)), (Filler.dl (u.cpy Q)), (Filler.val (Value.int IntKind.i64 ((List.length (u.cpy Q)) : Int))), (Filler.val (Value.int IntKind.i64 (0 : Int))), (Filler.dl Q)]) ∧ ((G d23) ∧ (∀ (d24 : ClG), ((G d24) → (([(Value.int IntKind.i64 (d24.i))] = [(Value.int IntKind.i64 (d23.i))]) → ((((decide ((d24.j) < (d24.n))) = true) → ((((0 : Int) ≤ (d24.j)) ∧ ((d24.j) < ((List.length (d24.al)) : Int))) ∧ ((((0 : Int) ≤ (d24.j)) ∧ ((d24.j) < ((List.length (d24.w)) : Int))) ∧ (((List.length (std.dels (std.fld (std.get zC (d24.al) (Int.toNat (d24.j))) 2))) ≤ 1000000) ∧ ((((u.sm (std.dint (std.fld (std.get zC (d24.al) (Int.toNat (d24.j))) 0)) (std.dint (std.fld (std.get zC (d24.al) (Int.toNat (d24.j))) 1)) (std.dels (std.fld (std.get zC (d24.al) (Int.toNat (d24.j))) 2)) (std.dint (std.fld (std.get zC (d24.w) (Int.toNat (d24.j))) 0)) (std.dint (std.fld (std.get zC (d24.w) (Int.toNat (d24.j))) 1)) (std.dels (std.fld (std.get zC (d24.w) (Int.toNat (d24.j))) 2))) = true) → ((((-9223372036854775808 : Int) ≤ ((d24.j) + (1 : Int))) ∧ (((d24.j) + (1 : Int)) ≤ (9223372036854775807 : Int))) ∧ (∃ (d29 : ClG), (([(Filler.dl ns), (Filler.dl (d29.w)), (Filler.val (Value.int IntKind.i64 (d29.i))), (Filler.dl (d29.al)), (Filler.val (Value.int IntKind.i64 (d29.n))), (Filler.val (Value.int IntKind.i64 (d29.j))), (Filler.dl (d29.q))] = [(Filler.dl ns), (Filler.dl (d24.w)), (Filler.val (Value.int IntKind.i64 (d24.i))), (Filler.dl (d24.al)), (Filler.val (Value.int IntKind.i64 (d24.n))), (Filler.val (Value.int IntKind.i64 ((d24.j) + (1 : Int)))), (Filler.dl (d24.q))]) ∧ ((Nat.le (Nat.succ (w d29)) (w d24)) ∧ (([(Value.int IntKind.i64 (d29.i))] = [(Value.int IntKind.i64 (d23.i))]) ∧ (G d29))))))) ∧ (((u.sm (std.dint (std.fld (std.get zC (d24.al) (Int.toNat (d24.j))) 0)) (std.dint (std.fld (std.get zC (d24.al) (Int.toNat (d24.j))) 1)) (std.dels (std.fld (std.get zC (d24.al) (Int.toNat (d24.j))) 2)) (std.dint (std.fld (std.get zC (d24.w) (Int.toNat (d24.j))) 0)) (std.dint (std.fld (std.get zC (d24.w) (Int.toNat (d24.j))) 1)) (std.dels (std.fld (std.get zC (d24.w) (Int.toNat (d24.j))) 2))) = false) → ([(Value.bool false)] = [(Value.bool true)]))))))) ∧ (((decide ((d24.j) < (d24.n))) = false) → ((((-9223372036854775808 : Int) ≤ ((d24.i) + (1 : Int))) ∧ (((d24.i) + (1 : Int)) ≤ (9223372036854775807 : Int))) ∧ (∃ (d28 : ClA), (([(Filler.dl ns), (Filler.dl (d28.w)), (Filler.val (Value.int IntKind.i64 (d28.i))), (Filler.dl (d28.q))] = [(Filler.dl ns), (Filler.dl (d24.w)), (Filler.val (Value.int IntKind.i64 ((d24.i) + (1 : Int)))), (Filler.dl (d24.q))]) ∧ ((Nat.le (Nat.succ (m d28)) k0) ∧ (I d28)))))))))))))
/-- A call as it is made. -/
def NC (x : Value) : Prop := ∃ a b ps, x = .agg #[.int .i64 a, .int .i64 b, dsl zP ps] ∧ ps.length ≤ 1000000
theorem nc_nrm {x : Value} (h : NC x) : nrmC x = x := by
  obtain ⟨a, b, ps, rfl, _⟩ := h
  have e : dels (fld (Value.agg #[.int .i64 a, .int .i64 b, dsl zP ps]) 2) = ps := by
    show (ps.toArray).toList = ps
    rw [List.toList_toArray]
  show setc zC _ 2 [dsl zP (dels (fld _ 2))] = _
  rw [e]; rfl
theorem nc_ps {x : Value} (h : NC x) : (dels (fld x 2)).length ≤ 1000000 := by
  obtain ⟨a, b, ps, rfl, h⟩ := h
  show (ps.toArray).toList.length ≤ _
  rw [List.toList_toArray]; exact h
def GoodC (l : List Value) : Prop := l.length ≤ 8 ∧ ∀ x ∈ l, NC x
theorem cpy_good {l : List Value} (h : ∀ x ∈ l, NC x) : cpyF l = l := by
  unfold cpyF
  conv => rhs; rw [← List.map_id l]
  exact List.map_congr_left fun x hx => nc_nrm (h x hx)
theorem okC_of {l : List Value} (h : l.length ≤ 1000000) (h2 : ∀ x ∈ l, NC x) : OkC l := by
  refine ⟨h, fun i hi => ?_⟩
  rw [List.getD_eq_getElem?_getD, List.getElem?_eq_getElem hi]
  exact nc_ps (h2 _ (List.getElem_mem hi))
theorem good_ok {l : List Value} (h : GoodC l) : OkC l := okC_of (by have := h.1; omega) h.2
theorem good_drop {l : List Value} (h : GoodC l) (n : Nat) : GoodC (l.drop n) :=
  ⟨by rw [List.length_drop]; have := h.1; omega, fun x hx => h.2 x (List.mem_of_mem_drop hx)⟩
theorem sm_self (x : Value) : clF.sm (dint (fld x 0)) (dint (fld x 1)) (dels (fld x 2)) (dint (fld x 0)) (dint (fld x 1)) (dels (fld x 2)) = true := by
  show (_ == _ && (_ == _ && sameF _ _)) = true
  rw [same_self]; simp
theorem one99 : OkC [Value.agg (Array.mk [(Value.int IntKind.i64 (99 : Int)), (Value.int IntKind.i64 (0 : Int)), zPs])] :=
  okC_of (by show 1 ≤ _; omega) fun x hx => by
    rw [List.mem_singleton.1 hx]; exact ⟨99, 0, [], rfl, by show 0 ≤ _; omega⟩
theorem tl_c {a w b : Int} {R1 R2 F X : Prop} (e1 : a = w) (e2 : b = w) (r1 : R1) (r2 : R2) (x : X) :
    ((!(a == w)) = true → F) ∧ ((!(a == w)) = false → ((!(b == w)) = true → F) ∧ ((!(b == w)) = false → R1 ∧ (R2 ∧ (((!((8 - b) == (8 - w))) = true → F) ∧ ((!((8 - b) == (8 - w))) = false → X))))) := by
  subst e1; subst e2
  exact ⟨fun h => by simp at h, fun _ => ⟨fun h => by simp at h, fun _ => ⟨r1, r2, fun h => by simp at h, fun _ => x⟩⟩⟩
def clI (ns : List Value) (d : ClA) : Prop := (∃ i : Nat, d.i = i ∧ i ≤ 30 ∧ i ≤ ns.length) ∧ d.q = d.w ∧ GoodC d.w
def clJ (ns : List Value) (d : ClB) : Prop := (∃ i : Nat, d.i = i ∧ i < 30 ∧ i < ns.length) ∧ d.q = d.w ∧ d.c = d.w ∧ GoodC d.w ∧ (∀ x ∈ d.ks, NC x) ∧ 0 ≤ d.n ∧ d.n ≤ 4 ∧ ∃ j : Nat, d.j = j ∧ (j : Int) ≤ d.n ∧ d.ks.length = j
def clG (ns : List Value) (d : ClG) : Prop := (∃ i : Nat, d.i = i ∧ i < 30 ∧ i < ns.length) ∧ d.q = d.w ∧ d.al = d.w ∧ GoodC d.w ∧ d.n = (d.w.length : Int) ∧ ∃ j : Nat, d.j = j ∧ j ≤ d.w.length
theorem lp_ok (ns W : List Value) (i : Nat) (k0 : Nat) (h30 : i < 30) (hin : i < ns.length) (hg : GoodC W) (hk : k0 = 30 - i) : clLp clF ns (clI ns) (fun d => (30 - d.i).toNat) (clG ns) (fun d => (d.n - d.j).toNat) W W i k0 := by
  unfold clLp
  have hc : clF.cpy W = W := cpy_good hg.2
  rw [hc]
  refine ⟨{ w := W, i := (i : Int), al := W, n := (W.length : Int), j := 0, q := W }, rfl, ⟨⟨i, rfl, h30, hin⟩, rfl, rfl, hg, rfl, 0, rfl, Nat.zero_le _⟩, fun ⟨w, i', al, n, j, q⟩ => fun ⟨⟨i2, hi2, h302, hin2⟩, hq, ha, hg, hn, j, hj, hjl⟩ => fun hgh => ⟨fun h1 => ?_, fun h1 => ?_⟩⟩
  · dsimp only at hi2 hq ha hg hn hj hjl hgh h1 ⊢
    have hgh : i' = (i : Int) := by injection hgh with h; injection h
    have e12 : i2 = i := by omega
    subst e12 hi2 hq ha hn hj
    have h1 := of_decide_eq_true h1
    have hlt : j < al.length := by omega
    have h8 := hg.1
    rw [Int.toNat_natCast]
    have hx : NC (al.getD j zC) := by
      rw [List.getD_eq_getElem?_getD, List.getElem?_eq_getElem hlt]
      exact hg.2 _ (List.getElem_mem hlt)
    have hs := sm_self (al.getD j zC)
    refine ⟨⟨by omega, by omega⟩, ⟨⟨by omega, by omega⟩, ⟨nc_ps hx, ⟨fun _ => ⟨⟨by omega, by omega⟩, ⟨{ w := al, i := (i2 : Int), al := al, n := (al.length : Int), j := (j : Int) + 1, q := al }, rfl, ?_, rfl, ⟨⟨i2, rfl, h302, hin2⟩, rfl, rfl, hg, rfl, j + 1, by show (j : Int) + 1 = _; omega, hlt⟩⟩⟩, fun h => ?_⟩⟩⟩⟩
    · show ((al.length : Int) - ((j : Int) + 1)).toNat + 1 ≤ ((al.length : Int) - (j : Int)).toNat
      omega
    · have h2 : false = true := (Eq.symm h).trans hs
      cases h2
  · dsimp only at hi2 hq ha hg hn hj hjl hgh h1 ⊢
    have hgh : i' = (i : Int) := by injection hgh with h; injection h
    have e12 : i2 = i := by omega
    subst e12 hi2 hq ha hn hj
    refine ⟨⟨by omega, by omega⟩, ⟨{ w := al, i := (i2 : Int) + 1, q := al }, rfl, ?_, ⟨⟨i2 + 1, by show (i2 : Int) + 1 = _; omega, by omega, by omega⟩, rfl, hg⟩⟩⟩
    show (30 - ((i2 : Int) + 1)).toNat + 1 ≤ k0
    omega
theorem l2_ok (ns W : List Value) (i : Nat) (h30 : i < 30) (hin : i < ns.length) (hg : GoodC W) : cl_vc_L2 kvF clF ns (clI ns) (fun d => (30 - d.i).toNat) (clJ ns) (fun d => (d.n - d.j).toNat) (clG ns) (fun d => (d.n - d.j).toNat) { w := W, i := (i : Int), q := W } := by
  unfold cl_vc_L2
  dsimp only
  have hc : clF.cpy W = W := cpy_good hg.2
  rw [hc, Int.toNat_natCast]
  have hw := wi_in2 (n := std.quo (eI ns i) 3) (lo := 0) (hi := 4) (by omega)
  generalize kvF.wi (std.quo (eI ns i) 3) 0 4 = N at hw ⊢
  refine ⟨{ w := W, i := (i : Int), ks := [], n := N, j := 0, q := W, c := W }, rfl, ⟨⟨i, rfl, h30, hin⟩, rfl, rfl, hg, fun x hx => (by cases hx), hw.1, hw.2, 0, rfl, by show (0 : Int) ≤ N; omega, rfl⟩, fun ⟨w, i', ks, n, j, q, c⟩ => fun ⟨⟨i2, hi2, h302, hin2⟩, hq, hcc, hg, hks, hn0, hn4, j, hj, hjn, hkl⟩ => fun hgh => ⟨fun h1 => ?_, fun h1 => ?_⟩⟩
  · dsimp only at hi2 hq hcc hg hks hn0 hn4 hj hjn hkl hgh h1 ⊢
    have hgh : i' = (i : Int) := by injection hgh with h; injection h
    have e12 : i2 = i := by omega
    subst e12 hi2 hq hcc hj
    have h1 := of_decide_eq_true h1
    refine ⟨fun k hk => ?_, ⟨?_, ⟨⟨by omega, by omega⟩, ⟨{ w := c, i := (i2 : Int), ks := ks ++ [Value.agg (Array.mk [(Value.int IntKind.i64 (i2 : Int)), (Value.int IntKind.i64 (j : Int)), (dsl zP (kvF.pairs [(Value.int IntKind.i64 (i2 : Int)), (Value.int IntKind.i64 (j : Int))]))])], n := n, j := (j : Int) + 1, q := c, c := c }, rfl, ?_, rfl, ⟨⟨i2, rfl, h302, hin2⟩, rfl, rfl, hg, fun x hx => ?_, hn0, hn4, j + 1, by show (j : Int) + 1 = _; omega, by show ((j + 1 : Nat) : Int) ≤ n; omega, by show (ks ++ [_]).length = _; rw [List.length_append, hkl]; rfl⟩⟩⟩⟩⟩
    · have hk : k < 2 := hk
      rcases (show k = 0 ∨ k = 1 by omega) with rfl | rfl
      · show -9223372036854775808 ≤ (i2 : Int) ∧ (i2 : Int) ≤ _
        omega
      · show -9223372036854775808 ≤ (j : Int) ∧ (j : Int) ≤ _
        omega
    · rw [List.length_append, hkl]
      show (j + 1) * 40 ≤ _
      omega
    · show (n - ((j : Int) + 1)).toNat + 1 ≤ (n - (j : Int)).toNat
      omega
    · rcases List.mem_append.1 hx with h | h
      · exact hks x h
      · rw [List.mem_singleton.1 h]
        refine ⟨_, _, _, rfl, ?_⟩
        show (pairsF _).length ≤ _
        have := (pairs_keys [(Value.int IntKind.i64 (i2 : Int)), (Value.int IntKind.i64 (j : Int))]).1
        omega
  · dsimp only at hi2 hq hcc hg hks hn0 hn4 hj hjn hkl hgh h1 ⊢
    have hgh : i' = (i : Int) := by injection hgh with h; injection h
    have e12 : i2 = i := by omega
    subst e12 hi2 hq hcc hj
    have h8 := hg.1
    obtain ⟨r1, r2, r3⟩ := room_rng c ks h8
    have e : std.imin ((List.length ks) : Int) ((8 : Int) - ((List.length c) : Int)) = roomN c ks := rfl
    have okk : OkC ks := okC_of (by omega) hks
    have hW : List.take ((Int.toNat (roomN c ks)) - 0) (List.drop 0 ks) = ks.take (roomN c ks).toNat := by rw [Nat.sub_zero, List.drop_zero]
    have hP : clF.pq c ks = c ++ ks.take (roomN c ks).toNat := by
      show cpyF c ++ cpyF (ks.take _) = _
      rw [cpy_good hg.2, cpy_good fun x hx => hks x (List.mem_of_mem_take hx)]
    have hgW : GoodC (c ++ ks.take (roomN c ks).toNat) := ⟨by rw [List.length_append, List.length_take]; omega, fun x hx => by
      rcases List.mem_append.1 hx with h | h
      · exact hg.2 x h
      · exact hks x (List.mem_of_mem_take h)⟩
    have lp := lp_ok ns (c ++ ks.take (roomN c ks).toNat) i2 (30 - i2) h302 hin2 hgW rfl
    have hcp : clF.cpy (c ++ ks.take (roomN c ks).toNat) = c ++ ks.take (roomN c ks).toNat := cpy_good hgW.2
    have hl8 := hgW.1
    have okd : OkC (clF.ot c) := good_ok (good_drop hg 1)
    have hk0 : (30 - (i2 : Int)).toNat = 30 - i2 := by omega
    unfold cl_vc_L1
    dsimp only
    rw [e, hW, hP, hcp]
    refine ⟨⟨by omega, by omega⟩, ⟨⟨h8, by omega, okk, good_ok hg⟩, ⟨fun h => ?_, fun _ => ⟨by omega, ⟨⟨⟨r1, r2⟩, trivial⟩, ⟨by omega, ⟨by omega, ⟨⟨by show (c.drop 1).length ≤ 8; rw [List.length_drop]; omega, by show 1 ≤ _; omega, one99, okd⟩, ⟨good_ok hgW, ?_⟩⟩⟩⟩⟩⟩⟩⟩⟩
    · have h : (!(roomN c ks == roomN c ks)) = true := h
      simp at h
    · refine tl_c rfl rfl ⟨by omega, by omega⟩ ⟨by omega, by omega⟩ ?_
      unfold clLp at lp
      rw [hcp] at lp
      rw [hk0]
      exact lp
theorem cl_run (ns : List Value) (hn : IntsOk ns) : Holds (runP std (clCon std kvF clF) 90 (clLs ns (clI ns) (fun d => (30 - d.i).toNat) (clJ ns) (fun d => (d.n - d.j).toNat) (clG ns) (fun d => (d.n - d.j).toNat)) clP 6 Try.f6 (ns, ())) := by
  constructor
  refine (cl_vc kvF clF ns _ _ _ _ _ _).mpr ?_
  unfold cl_vc_L5
  refine ⟨{ w := [], i := 0, q := [] }, rfl, ⟨⟨0, rfl, by omega, Nat.zero_le _⟩, rfl, Nat.zero_le _, fun x hx => by cases hx⟩, fun ⟨w0, i, w⟩ => fun ⟨⟨i, hi, h30, hin⟩, hq, hg⟩ => ⟨fun h1 => ⟨fun h2 => ?_, fun _ => rfl⟩, fun _ => rfl⟩⟩
  dsimp only at hi hq hg h1 h2 ⊢
  subst hi hq
  have h1 := of_decide_eq_true h1
  have h2 := of_decide_eq_true h2
  have hlt : i < ns.length := by omega
  have h30 : i < 30 := by omega
  rw [Int.toNat_natCast]
  have hr := hn i hlt
  have h8 := hg.1
  have hcp : clF.cpy w = w := cpy_good hg.2
  have okd : OkC (clF.ot w) := good_ok (good_drop hg 1)
  have hgd := good_drop hg 1
  have hcd : clF.cpy (clF.ot w) = w.drop 1 := cpy_good hgd.2
  have hot : clF.ot w = w.drop 1 := rfl
  have htk : List.take ((List.length w) - (Int.toNat (1 : Int))) (List.drop (Int.toNat (1 : Int)) w) = w.drop 1 := List.take_of_length_le (by rw [List.length_drop]; exact Nat.le_refl _)
  have hl1 : (w.drop 1).length ≤ 8 := hgd.1
  have hk0 : (30 - (i : Int)).toNat = 30 - i := by omega
  refine ⟨good_ok hg, ⟨⟨by omega, by omega⟩, ⟨by omega, ⟨fun h3 => ⟨by omega, ⟨fun h4 => ⟨fun h5 => ?_, fun h5 => ?_⟩, fun h4 => ⟨fun h5 => ?_, fun h5 => ?_⟩⟩⟩, fun h3 => ⟨⟨by omega, by omega⟩, ⟨⟨by omega, by omega, by omega⟩, ⟨⟨?_, by omega, by omega, by omega⟩, l2_ok ns w i h30 hlt hg⟩⟩⟩⟩⟩⟩⟩
  · have h5 := of_decide_eq_true h5
    have hpos : 0 < w.length := by omega
    have hx : NC (w.getD 0 zC) := by
      rw [List.getD_eq_getElem?_getD, List.getElem?_eq_getElem hpos]
      exact hg.2 _ (List.getElem_mem hpos)
    have hs := sm_self (w.getD 0 zC)
    rw [hcp, htk, hcd, hot]
    refine ⟨⟨by omega, by omega⟩, ⟨nc_ps hx, ⟨fun _ => ⟨⟨trivial, by omega, by omega⟩, ⟨by omega, ⟨⟨hl1, by show 1 ≤ _; omega, one99, okd⟩, ⟨okd, ?_⟩⟩⟩⟩, fun h => ?_⟩⟩⟩
    · refine tl_c rfl rfl ⟨by omega, by omega⟩ ⟨by omega, by omega⟩ ?_
      have lp := lp_ok ns (w.drop 1) i (30 - i) h30 hlt hgd rfl
      unfold clLp at lp
      unfold cl_vc_L4
      dsimp only
      rw [hk0, htk]
      exact lp
    · have h2 : false = true := (Eq.symm h).trans hs
      cases h2
  · have h5 := of_decide_eq_false h5
    have h4 : decide (0 < w.length) = true := h4
    have := of_decide_eq_true h4
    omega
  · have h5 := of_decide_eq_true h5
    have h4 : decide (0 < w.length) = false := h4
    have := of_decide_eq_false h4
    omega
  · have h4 : decide (0 < w.length) = false := h4
    have h4 := of_decide_eq_false h4
    have hw0 : w = [] := List.eq_nil_of_length_eq_zero (by omega)
    subst hw0
    refine ⟨by show ([] : List Value).length ≤ _; exact Nat.zero_le _, ⟨fun _ => ⟨by rw [hcp]; exact Nat.zero_le _, ⟨⟨by rw [hcp]; exact Nat.zero_le _, by show 1 ≤ _; omega, one99, by rw [hcp]; exact okd⟩, ⟨okd, ?_⟩⟩⟩, fun h => ?_⟩⟩
    · refine tl_c rfl rfl ⟨by show (_ : Int) ≤ 8 - 0; omega, by show (8 - 0 : Int) ≤ _; omega⟩ ⟨by show (_ : Int) ≤ 8 - 0; omega, by show (8 - 0 : Int) ≤ _; omega⟩ ?_
      have lp := lp_ok ns [] i (30 - i) h30 hlt hg rfl
      unfold clLp at lp
      unfold cl_vc_L3
      dsimp only
      rw [hk0]
      exact lp
    · have h2 : false = true := (Eq.symm h).trans (sm_self zC)
      cases h2
  · have e : std.quo (eI ns i) 3 = Int.tdiv (eI ns i) 3 := rfl
    rw [e]
    have h : (Int.tdiv (eI ns i) 3).natAbs = (eI ns i).natAbs / 3 := Int.natAbs_tdiv (eI ns i) 3
    omega
theorem callsRuns_closed : (callN vbeq Try.prog X0 1000 3 [] H0).map (·.1) = some (.bool true) := by rw [callF_eq]; kernel_rfl
theorem clCon_ok : ConOk Try.prog (clCon std kvF clF) := draw_ok (conL_ok fun x hx => by
    simp only [List.mem_cons, List.not_mem_nil, or_false] at hx
    rcases hx with rfl | rfl | rfl | rfl | rfl | rfl | rfl
    · exact pcon_ok wi_ok
    · exact pcon_ok pairs_ok
    · exact cp_ok.sem
    · exact push_ok.sem
    · exact pop_ok.sem
    · exact all_ok.sem
    · exact closedC_ok (knownOk_none _) Try.func3 (show _ = some (bodyS Try.prog 3) by kernel_rfl) rfl callsRuns_closed) fun x hx => by
  rw [List.mem_singleton.1 hx]; exact dcon_ok rfl sm_ok
noncomputable def clQ : PF := pf (.cons cIs .nil) (fun d => IntsOk d.1) [.bool false] fun _ => [.bool true]
theorem cl_ok : PFOk Try.prog 6 clQ :=
  pf_ok (LS := fun d => clLs d.1 (clI d.1) (fun d => (30 - d.i).toNat) (clJ d.1) (fun d => (d.n - d.j).toNat) (clG d.1) (fun d => (d.n - d.j).toNat)) Try.progOk clCon_ok (inCallF_ok 60) clQ Try.func6 (show _ = some (bodyS Try.prog 6) by kernel_rfl) fun d hd => by
    obtain ⟨xs, u⟩ := d
    obtain ⟨h⟩ := cl_run xs hd
    exact h
theorem callsPlays_calls (w : World) (v0 : Value) (h0 : SlIn w zI v0) : Calls Try.prog 6 #[v0] w fun e w' => Below w.heap.size w w' ∧ e = .returned (.bool true) := by
  obtain ⟨l0, _, i0, d0⟩ := h0
  exact law_pf Try.progOk Try.func6 (show _ = some (bodyS Try.prog 6) by kernel_rfl) cl_ok rfl (d := (l0, ())) (sl_ints i0) rfl (xs := [dsl zI l0]) (by kernel_rfl) (All2.cons d0 All2.nil)
set_option maxRecDepth 100000 in
theorem callsPlays_lifted (os : Os) (started : os.Started) (H : Type) (enc : TypeId × Value → H) :
    ReturnsInHanded {} Try.checked os 6 .any (Rows.callsPlaysSpec.pre6 enc Try.prog Try.f6 Rows.callsPlaysRow.domain false) (Rows.callsPlaysSpec.post enc Try.prog Try.f6 false true false false) := by
  refine returnsInHanded_of_change (C := Try.checked) Try.own started (by kernel_rfl) Try.func6
    (ChangeSpec.witness6 (enc := enc) (C := Try.checked) false ⟨#[], #[.slice none 0 0], []⟩ 40 (by kernel_rfl) (by kernel_rfl) (by kernel_rfl) (by kernel_rfl)) ?_
  intro W base args ds gs before hval0 hW hcnd _
  have hval : ∀ (j : Nat) t v, Try.f6.params[j]? = some t → args[j]? = some v → Value.okWide Try.prog W .any base t v := hval0
  have hW' := hW
  obtain ⟨p, q, hA0, hV, rfl, hfz, hnd⟩ := hW
  have hA : DataW.TrodAll enc Try.prog W 0 (fun _ => true) true Try.f6.params.toList args.toList ds p := hA0
  rw [Try.params6] at hA hval
  have hAk := hA
  obtain ⟨v0, d0, p0, rfl, rfl, rfl, h0⟩ := trodAll_one' hA
  obtain ⟨rfl, rfl⟩ := trodVars_none hV
  have in0 : SlIn W zI v0 := arg_slice (n := 8) (by kernel_rfl) (by decide +kernel) Try.underlying36 (by kernel_rfl) (hval 0 36 v0 rfl rfl) h0
  clear hA0 hval0
  have hlt : ∀ x ∈ p0 ++ ([] : List MemPlace), x.block < W.heap.size := fun x hx => hW'.lt x (by simpa using hx)
  refine (callsPlays_calls W v0 in0).mono fun e W' ⟨hb, he⟩ => ?_
  subst he
  exact ⟨_, rfl, post_below (pa := p0 ++ []) (pv := []) hW' (fun _ _ _ => trodAll_mk1 (shut_bool Try.underlying4 true)) (fun sp hsp => trodAll_stays (by kernel_rfl) hb (by decide +kernel) hAk hlt (fun x hx => hsp x (by simpa using hx))) (fun _ _ => rfl) (by simp) hb (ok_one (by kernel_rfl) rfl (okWide_bool_mk Try.underlying4 true))⟩

theorem callsPlays_holds : Rows.CallsPlaysSaid :=
  OpenClaim.holds_of_wide 6 Try.f6 rfl rfl rfl rfl rfl rfl rfl ⟨rfl, rfl, rfl, rfl, rfl⟩ rfl rfl rfl rfl rfl (by kernel_rfl) Try.func6 (by kernel_rfl)
    (of_decide_eq_true (by kernel_rfl)) (by unfold Func.isWrapper; first | (rw [if_pos (by decide +kernel)]; kernel_rfl) | (rw [if_neg (by decide +kernel)]; exact ⟨rfl, rfl⟩))
    (fun os started H enc _ => callsPlays_lifted os started H enc)
end Go.Proofs.Ytjflbgfmdgbifaa
end
