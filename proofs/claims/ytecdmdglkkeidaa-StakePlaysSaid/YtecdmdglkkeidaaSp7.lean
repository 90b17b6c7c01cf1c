/-
  StakePlays: any transactions, other pairs between: each error, the whole row, the backing.
-/
import Derived.Test.YtecdmdglkkeidaaSp6
import Derived.Test.YtecdmdglkkeidaaRows
import Derived.ChangeMaps5
section
namespace Go.Proofs.Ytecdmdglkkeidaa
open Go.Abs Go
set_option maxRecDepth 100000 in
theorem pick_vc (t : StF) (xs : List Value) (i : Int) : runP std (pickCon std) 40 noL (pickP std t) 16 Try.f16 (xs, i, ()) =
  ((((((List.length xs) : Int) == (0 : Int)) = true) → ([(Value.int IntKind.i64 (0 : Int))] = [(Value.int IntKind.i64 (t.pick xs i))])) ∧ (((((List.length xs) : Int) == (0 : Int)) = false) → (((0 : Int) < ((List.length xs) : Int)) ∧ ((((0 : Int) ≤ (std.rem i ((List.length xs) : Int))) ∧ ((std.rem i ((List.length xs) : Int)) < ((List.length xs) : Int))) ∧ ((((-9223372036854775808 : Int) ≤ (eI xs (Int.toNat (std.rem i ((List.length xs) : Int))))) ∧ ((eI xs (Int.toNat (std.rem i ((List.length xs) : Int)))) ≤ (9223372036854775807 : Int))) ∧ (∀ (r6 : Int), ((((0 : Int) ≤ r6) ∧ (r6 ≤ (1073741824 : Int))) → ((r6 = ((0 : Int) + ((eI xs (Int.toNat (std.rem i ((List.length xs) : Int)))) % (1073741825 : Int)))) → ([(Value.int IntKind.i64 r6)] = [(Value.int IntKind.i64 (t.pick xs i))]))))))))) := by kernel_rfl
def stNames : List Value := [(Value.string (ByteArray.mk (Array.mk [(97 : UInt8)]))), (Value.string (ByteArray.mk (Array.mk [(98 : UInt8)]))), (Value.string (ByteArray.mk (Array.mk [(99 : UInt8)]))), (Value.string (ByteArray.mk (Array.mk [(100 : UInt8)]))), (Value.string (ByteArray.mk (Array.mk []))), (Value.string (ByteArray.mk (Array.mk [(108 : UInt8), (111 : UInt8), (110 : UInt8), (103 : UInt8), (101 : UInt8), (114 : UInt8), (32 : UInt8), (116 : UInt8), (104 : UInt8), (97 : UInt8), (110 : UInt8), (32 : UInt8), (109 : UInt8), (97 : UInt8), (121 : UInt8), (32 : UInt8), (98 : UInt8), (101 : UInt8)])))]
def nmS (t : StF) (ms : List Value) (i : Int) : ByteArray := eS stNames (Int.toNat (std.rem (t.pick ms i) (6 : Int)))
def kdS (g : KvF) (ks : List Value) (i : Int) : Int := g.wi (eI ks (Int.toNat i)) (1 : Int) (3 : Int)
def spBody (g : KvF) (t : StF) (ks ms qs bs : List Value) (raw : ByteArray) (I : SpL → Prop) (m : SpL → Nat) (d13 : SpL) (lL lO : List Value) (eL eO : Int) : Prop :=
  ((((List.length lL) ≤ 1000000) ∧ (∀ (i19 : Nat), ((i19 < (List.length lL)) → ((std.slen (vP lL i19)) ≤ 4000000)))) ∧ ((((t.bok lL) = true) → ((((List.length lO) ≤ 1000000) ∧ (∀ (i20 : Nat), ((i20 < (List.length lO)) → ((std.slen (vP lO i20)) ≤ 4000000)))) ∧ ((((t.rbok lO) = true) → ((((!(eL == eO)) = true) → ([(Value.bool false)] = [(Value.bool true)])) ∧ (((!(eL == eO)) = false) → (((List.length lL) ≤ 1000000) ∧ ((((g.same lL lO) = true) → ((((!((t.bck lL) == (t.rbck lO))) = true) → ([(Value.bool false)] = [(Value.bool true)])) ∧ (((!((t.bck lL) == (t.rbck lO))) = false) → (((List.length (d13.l)) ≤ 1000000) ∧ ((((g.same (d13.l) (d13.l)) = true) → ((((-9223372036854775808 : Int) ≤ ((d13.i) + (1 : Int))) ∧ (((d13.i) + (1 : Int)) ≤ (9223372036854775807 : Int))) ∧ (∃ (d25 : SpL), (([(Filler.dl ks), (Filler.dl ms), (Filler.dl qs), (Filler.dl bs), (Filler.val (Value.string raw)), (Filler.dl (d25.l)), (Filler.dl (d25.o)), (Filler.val (Value.int IntKind.i64 (d25.i)))] = [(Filler.dl ks), (Filler.dl ms), (Filler.dl qs), (Filler.dl bs), (Filler.val (Value.string raw)), (Filler.dl lL), (Filler.dl lO), (Filler.val (Value.int IntKind.i64 ((d13.i) + (1 : Int))))]) ∧ ((Nat.le (Nat.succ (m d25)) (m d13)) ∧ (I d25)))))) ∧ (((g.same (d13.l) (d13.l)) = false) → ([(Value.bool false)] = [(Value.bool true)]))))))) ∧ (((g.same lL lO) = false) → ([(Value.bool false)] = [(Value.bool true)]))))))) ∧ (((t.rbok lO) = false) → ((((!(eL == eO)) = true) → ([(Value.bool false)] = [(Value.bool true)])) ∧ (((!(eL == eO)) = false) → (((List.length lL) ≤ 1000000) ∧ ((((g.same lL lO) = true) → ((((!((t.bck lL) == (t.rbck lO))) = true) → ([(Value.bool false)] = [(Value.bool true)])) ∧ (((!((t.bck lL) == (t.rbck lO))) = false) → ([(Value.bool false)] = [(Value.bool true)])))) ∧ (((g.same lL lO) = false) → ([(Value.bool false)] = [(Value.bool true)])))))))))) ∧ (((t.bok lL) = false) → ((((List.length lO) ≤ 1000000) ∧ (∀ (i20 : Nat), ((i20 < (List.length lO)) → ((std.slen (vP lO i20)) ≤ 4000000)))) ∧ ((((t.rbok lO) = true) → ((((!(eL == eO)) = true) → ([(Value.bool false)] = [(Value.bool true)])) ∧ (((!(eL == eO)) = false) → (((List.length lL) ≤ 1000000) ∧ ((((g.same lL lO) = true) → ((((!((t.bck lL) == (t.rbck lO))) = true) → ([(Value.bool false)] = [(Value.bool true)])) ∧ (((!((t.bck lL) == (t.rbck lO))) = false) → ([(Value.bool false)] = [(Value.bool true)])))) ∧ (((g.same lL lO) = false) → ([(Value.bool false)] = [(Value.bool true)]))))))) ∧ (((t.rbok lO) = false) → ((((!(eL == eO)) = true) → ([(Value.bool false)] = [(Value.bool true)])) ∧ (((!(eL == eO)) = false) → (((List.length lL) ≤ 1000000) ∧ ((((g.same lL lO) = true) → ((((!((t.bck lL) == (t.rbck lO))) = true) → ([(Value.bool false)] = [(Value.bool true)])) ∧ (((!((t.bck lL) == (t.rbck lO))) = false) → (((List.length (d13.l)) ≤ 1000000) ∧ ((((g.same (d13.l) (d13.l)) = true) → ((((-9223372036854775808 : Int) ≤ ((d13.i) + (1 : Int))) ∧ (((d13.i) + (1 : Int)) ≤ (9223372036854775807 : Int))) ∧ (∃ (d25 : SpL), (([(Filler.dl ks), (Filler.dl ms), (Filler.dl qs), (Filler.dl bs), (Filler.val (Value.string raw)), (Filler.dl (d25.l)), (Filler.dl (d25.o)), (Filler.val (Value.int IntKind.i64 (d25.i)))] = [(Filler.dl ks), (Filler.dl ms), (Filler.dl qs), (Filler.dl bs), (Filler.val (Value.string raw)), (Filler.dl lL), (Filler.dl lO), (Filler.val (Value.int IntKind.i64 ((d13.i) + (1 : Int))))]) ∧ ((Nat.le (Nat.succ (m d25)) (m d13)) ∧ (I d25)))))) ∧ (((g.same (d13.l) (d13.l)) = false) → ([(Value.bool false)] = [(Value.bool true)]))))))) ∧ (((g.same lL lO) = false) → ([(Value.bool false)] = [(Value.bool true)]))))))))))))
def spTail (t : StF) (raw : ByteArray) : Prop :=
  (((((0 : Int) ≤ (std.imin ((std.slen raw) : Int) (12 : Int))) ∧ ((std.imin ((std.slen raw) : Int) (12 : Int)) ≤ ((std.slen raw) : Int))) ∧ True) ∧ (((std.slen (std.ssub raw 0 (Int.toNat (std.imin ((std.slen raw) : Int) (12 : Int))))) ≤ 4000000) ∧ ((((t.rok (std.ssub raw 0 (Int.toNat (std.imin ((std.slen raw) : Int) (12 : Int))))) = true) → (((((0 : Int) ≤ (std.imin ((std.slen raw) : Int) (12 : Int))) ∧ ((std.imin ((std.slen raw) : Int) (12 : Int)) ≤ ((std.slen raw) : Int))) ∧ True) ∧ (((std.slen (std.ssub raw 0 (Int.toNat (std.imin ((std.slen raw) : Int) (12 : Int))))) ≤ 4000000) ∧ ((((t.qok (std.ssub raw 0 (Int.toNat (std.imin ((std.slen raw) : Int) (12 : Int))))) = true) → (((((t.rtok (std.ssub raw 0 (Int.toNat (std.imin ((std.slen raw) : Int) (12 : Int))))) == (t.qtok (std.ssub raw 0 (Int.toNat (std.imin ((std.slen raw) : Int) (12 : Int)))))) = true) → (((((t.rrew (std.ssub raw 0 (Int.toNat (std.imin ((std.slen raw) : Int) (12 : Int))))) == (t.qrew (std.ssub raw 0 (Int.toNat (std.imin ((std.slen raw) : Int) (12 : Int)))))) = true) → ([(Value.bool true)] = [(Value.bool true)])) ∧ ((((t.rrew (std.ssub raw 0 (Int.toNat (std.imin ((std.slen raw) : Int) (12 : Int))))) == (t.qrew (std.ssub raw 0 (Int.toNat (std.imin ((std.slen raw) : Int) (12 : Int)))))) = false) → ([(Value.bool false)] = [(Value.bool true)])))) ∧ ((((t.rtok (std.ssub raw 0 (Int.toNat (std.imin ((std.slen raw) : Int) (12 : Int))))) == (t.qtok (std.ssub raw 0 (Int.toNat (std.imin ((std.slen raw) : Int) (12 : Int)))))) = false) → ([(Value.bool false)] = [(Value.bool true)])))) ∧ (((t.qok (std.ssub raw 0 (Int.toNat (std.imin ((std.slen raw) : Int) (12 : Int))))) = false) → (((((t.rtok (std.ssub raw 0 (Int.toNat (std.imin ((std.slen raw) : Int) (12 : Int))))) == (t.qtok (std.ssub raw 0 (Int.toNat (std.imin ((std.slen raw) : Int) (12 : Int)))))) = true) → (((((t.rrew (std.ssub raw 0 (Int.toNat (std.imin ((std.slen raw) : Int) (12 : Int))))) == (t.qrew (std.ssub raw 0 (Int.toNat (std.imin ((std.slen raw) : Int) (12 : Int)))))) = true) → ([(Value.bool false)] = [(Value.bool true)])) ∧ ((((t.rrew (std.ssub raw 0 (Int.toNat (std.imin ((std.slen raw) : Int) (12 : Int))))) == (t.qrew (std.ssub raw 0 (Int.toNat (std.imin ((std.slen raw) : Int) (12 : Int)))))) = false) → ([(Value.bool false)] = [(Value.bool true)])))) ∧ ((((t.rtok (std.ssub raw 0 (Int.toNat (std.imin ((std.slen raw) : Int) (12 : Int))))) == (t.qtok (std.ssub raw 0 (Int.toNat (std.imin ((std.slen raw) : Int) (12 : Int)))))) = false) → ([(Value.bool false)] = [(Value.bool true)])))))))) ∧ (((t.rok (std.ssub raw 0 (Int.toNat (std.imin ((std.slen raw) : Int) (12 : Int))))) = false) → (((((0 : Int) ≤ (std.imin ((std.slen raw) : Int) (12 : Int))) ∧ ((std.imin ((std.slen raw) : Int) (12 : Int)) ≤ ((std.slen raw) : Int))) ∧ True) ∧ (((std.slen (std.ssub raw 0 (Int.toNat (std.imin ((std.slen raw) : Int) (12 : Int))))) ≤ 4000000) ∧ ((((t.qok (std.ssub raw 0 (Int.toNat (std.imin ((std.slen raw) : Int) (12 : Int))))) = true) → (((((t.rtok (std.ssub raw 0 (Int.toNat (std.imin ((std.slen raw) : Int) (12 : Int))))) == (t.qtok (std.ssub raw 0 (Int.toNat (std.imin ((std.slen raw) : Int) (12 : Int)))))) = true) → (((((t.rrew (std.ssub raw 0 (Int.toNat (std.imin ((std.slen raw) : Int) (12 : Int))))) == (t.qrew (std.ssub raw 0 (Int.toNat (std.imin ((std.slen raw) : Int) (12 : Int)))))) = true) → ([(Value.bool false)] = [(Value.bool true)])) ∧ ((((t.rrew (std.ssub raw 0 (Int.toNat (std.imin ((std.slen raw) : Int) (12 : Int))))) == (t.qrew (std.ssub raw 0 (Int.toNat (std.imin ((std.slen raw) : Int) (12 : Int)))))) = false) → ([(Value.bool false)] = [(Value.bool true)])))) ∧ ((((t.rtok (std.ssub raw 0 (Int.toNat (std.imin ((std.slen raw) : Int) (12 : Int))))) == (t.qtok (std.ssub raw 0 (Int.toNat (std.imin ((std.slen raw) : Int) (12 : Int)))))) = false) → ([(Value.bool false)] = [(Value.bool true)])))) ∧ (((t.qok (std.ssub raw 0 (Int.toNat (std.imin ((std.slen raw) : Int) (12 : Int))))) = false) → (((((t.rtok (std.ssub raw 0 (Int.toNat (std.imin ((std.slen raw) : Int) (12 : Int))))) == (t.qtok (std.ssub raw 0 (Int.toNat (std.imin ((std.slen raw) : Int) (12 : Int)))))) = true) → (((((t.rrew (std.ssub raw 0 (Int.toNat (std.imin ((std.slen raw) : Int) (12 : Int))))) == (t.qrew (std.ssub raw 0 (Int.toNat (std.imin ((std.slen raw) : Int) (12 : Int)))))) = true) → ([(Value.bool true)] = [(Value.bool true)])) ∧ ((((t.rrew (std.ssub raw 0 (Int.toNat (std.imin ((std.slen raw) : Int) (12 : Int))))) == (t.qrew (std.ssub raw 0 (Int.toNat (std.imin ((std.slen raw) : Int) (12 : Int)))))) = false) → ([(Value.bool false)] = [(Value.bool true)])))) ∧ ((((t.rtok (std.ssub raw 0 (Int.toNat (std.imin ((std.slen raw) : Int) (12 : Int))))) == (t.qtok (std.ssub raw 0 (Int.toNat (std.imin ((std.slen raw) : Int) (12 : Int)))))) = false) → ([(Value.bool false)] = [(Value.bool true)])))))))))))
set_option maxRecDepth 100000 in
theorem sp_vc (g : KvF) (t : StF) (xs ks ms qs bs : List Value) (raw : ByteArray) (I : SpL → Prop) (m : SpL → Nat) : runP std (spCon std g t) 90 (spLs ks ms qs bs raw I m) spP 4 Try.f4 (xs, ks, ms, qs, bs, raw, ()) =
  ((∀ (i12 : Nat), ((i12 < (List.length xs)) → (((-9223372036854775808 : Int) ≤ (eI xs i12)) ∧ ((eI xs i12) ≤ (9223372036854775807 : Int))))) ∧ ((((List.length (g.pairs xs)) * 32) ≤ 140737488355328) ∧ (∃ (d12 : SpL), (([(Filler.dl ks), (Filler.dl ms), (Filler.dl qs), (Filler.dl bs), (Filler.val (Value.string raw)), (Filler.dl (d12.l)), (Filler.dl (d12.o)), (Filler.val (Value.int IntKind.i64 (d12.i)))] = [(Filler.dl ks), (Filler.dl ms), (Filler.dl qs), (Filler.dl bs), (Filler.val (Value.string raw)), (Filler.dl (g.pairs xs)), (Filler.dl (g.pairs xs)), (Filler.val (Value.int IntKind.i64 (0 : Int)))]) ∧ ((I d12) ∧ (∀ (d13 : SpL), ((I d13) → ((((decide ((d13.i) < ((List.length ks) : Int))) = true) → ((((decide ((d13.i) < (20 : Int))) = true) → ((((0 : Int) ≤ (d13.i)) ∧ ((d13.i) < ((List.length ks) : Int))) ∧ (((((-9223372036854775808 : Int) ≤ (eI ks (Int.toNat (d13.i)))) ∧ ((eI ks (Int.toNat (d13.i))) ≤ (9223372036854775807 : Int))) ∧ (((-1000000000000 : Int) ≤ (1 : Int)) ∧ (((1 : Int) ≤ (3 : Int)) ∧ ((3 : Int) ≤ (2000000000000 : Int))))) ∧ (((∀ (i17 : Nat), ((i17 < (List.length ms)) → (((-9223372036854775808 : Int) ≤ (eI ms i17)) ∧ ((eI ms i17) ≤ (9223372036854775807 : Int))))) ∧ (((0 : Int) ≤ (d13.i)) ∧ ((d13.i) ≤ (1000000 : Int)))) ∧ (((0 : Int) < (6 : Int)) ∧ ((((0 : Int) ≤ (std.rem (t.pick ms (d13.i)) (6 : Int))) ∧ ((std.rem (t.pick ms (d13.i)) (6 : Int)) < ((List.length stNames) : Int))) ∧ (((∀ (i17 : Nat), ((i17 < (List.length qs)) → (((-9223372036854775808 : Int) ≤ (eI qs i17)) ∧ ((eI qs i17) ≤ (9223372036854775807 : Int))))) ∧ (((0 : Int) ≤ (d13.i)) ∧ ((d13.i) ≤ (1000000 : Int)))) ∧ (((∀ (i17 : Nat), ((i17 < (List.length bs)) → (((-9223372036854775808 : Int) ≤ (eI bs i17)) ∧ ((eI bs i17) ≤ (9223372036854775807 : Int))))) ∧ (((0 : Int) ≤ (d13.i)) ∧ ((d13.i) ≤ (1000000 : Int)))) ∧ (((0 : Int) < (5 : Int)) ∧ (((((std.rem (d13.i) (5 : Int)) == (4 : Int)) = true) → ((((List.length (d13.l)) * 32) ≤ 140737488355328) ∧ (((((kdS g ks d13.i) == (1 : Int)) = true) → (((t.okl (d13.l)) ∧ (((std.slen (nmS t ms d13.i)) ≤ 1000000) ∧ ((((-9223372036854775808 : Int) ≤ (-1 : Int)) ∧ ((-1 : Int) ≤ (9223372036854775807 : Int))) ∧ (((-9223372036854775808 : Int) ≤ (0 : Int)) ∧ ((0 : Int) ≤ (9223372036854775807 : Int)))))) ∧ ((((t.okl (d13.o)) ∧ (((std.slen (nmS t ms d13.i)) ≤ 1000000) ∧ ((((-9223372036854775808 : Int) ≤ (-1 : Int)) ∧ ((-1 : Int) ≤ (9223372036854775807 : Int))) ∧ (((-9223372036854775808 : Int) ≤ (0 : Int)) ∧ ((0 : Int) ≤ (9223372036854775807 : Int)))))) ∧ (((1 : Int) ≤ (kdS g ks d13.i)) ∧ ((kdS g ks d13.i) ≤ (3 : Int)))) ∧ (spBody g t ks ms qs bs raw I m d13 (t.stk (1 : Int) (d13.l) (nmS t ms d13.i) (-1 : Int) (0 : Int)) (t.rstk (kdS g ks d13.i) (d13.o) (nmS t ms d13.i) (-1 : Int) (0 : Int)) (t.ster (1 : Int) (d13.l) (nmS t ms d13.i) (-1 : Int) (0 : Int)) (t.rster (kdS g ks d13.i) (d13.o) (nmS t ms d13.i) (-1 : Int) (0 : Int)))))) ∧ ((((kdS g ks d13.i) == (1 : Int)) = false) → (((((kdS g ks d13.i) == (2 : Int)) = true) → (((t.okl (d13.l)) ∧ (((std.slen (nmS t ms d13.i)) ≤ 1000000) ∧ ((((-9223372036854775808 : Int) ≤ (-1 : Int)) ∧ ((-1 : Int) ≤ (9223372036854775807 : Int))) ∧ (((-9223372036854775808 : Int) ≤ (0 : Int)) ∧ ((0 : Int) ≤ (9223372036854775807 : Int)))))) ∧ ((((t.okl (d13.o)) ∧ (((std.slen (nmS t ms d13.i)) ≤ 1000000) ∧ ((((-9223372036854775808 : Int) ≤ (-1 : Int)) ∧ ((-1 : Int) ≤ (9223372036854775807 : Int))) ∧ (((-9223372036854775808 : Int) ≤ (0 : Int)) ∧ ((0 : Int) ≤ (9223372036854775807 : Int)))))) ∧ (((1 : Int) ≤ (kdS g ks d13.i)) ∧ ((kdS g ks d13.i) ≤ (3 : Int)))) ∧ (spBody g t ks ms qs bs raw I m d13 (t.stk (2 : Int) (d13.l) (nmS t ms d13.i) (-1 : Int) (0 : Int)) (t.rstk (kdS g ks d13.i) (d13.o) (nmS t ms d13.i) (-1 : Int) (0 : Int)) (t.ster (2 : Int) (d13.l) (nmS t ms d13.i) (-1 : Int) (0 : Int)) (t.rster (kdS g ks d13.i) (d13.o) (nmS t ms d13.i) (-1 : Int) (0 : Int)))))) ∧ ((((kdS g ks d13.i) == (2 : Int)) = false) → (((t.okl (d13.l)) ∧ (((std.slen (nmS t ms d13.i)) ≤ 1000000) ∧ ((((-9223372036854775808 : Int) ≤ (-1 : Int)) ∧ ((-1 : Int) ≤ (9223372036854775807 : Int))) ∧ (((-9223372036854775808 : Int) ≤ (0 : Int)) ∧ ((0 : Int) ≤ (9223372036854775807 : Int)))))) ∧ ((((t.okl (d13.o)) ∧ (((std.slen (nmS t ms d13.i)) ≤ 1000000) ∧ ((((-9223372036854775808 : Int) ≤ (-1 : Int)) ∧ ((-1 : Int) ≤ (9223372036854775807 : Int))) ∧ (((-9223372036854775808 : Int) ≤ (0 : Int)) ∧ ((0 : Int) ≤ (9223372036854775807 : Int)))))) ∧ (((1 : Int) ≤ (kdS g ks d13.i)) ∧ ((kdS g ks d13.i) ≤ (3 : Int)))) ∧ (spBody g t ks ms qs bs raw I m d13 (t.stk (3 : Int) (d13.l) (nmS t ms d13.i) (-1 : Int) (0 : Int)) (t.rstk (kdS g ks d13.i) (d13.o) (nmS t ms d13.i) (-1 : Int) (0 : Int)) (t.ster (3 : Int) (d13.l) (nmS t ms d13.i) (-1 : Int) (0 : Int)) (t.rster (kdS g ks d13.i) (d13.o) (nmS t ms d13.i) (-1 : Int) (0 : Int))))))))))) ∧ ((((std.rem (d13.i) (5 : Int)) == (4 : Int)) = false) → ((((List.length (d13.l)) * 32) ≤ 140737488355328) ∧ (((((kdS g ks d13.i) == (1 : Int)) = true) → (((t.okl (d13.l)) ∧ (((std.slen (nmS t ms d13.i)) ≤ 1000000) ∧ ((((-9223372036854775808 : Int) ≤ (t.pick qs (d13.i))) ∧ ((t.pick qs (d13.i)) ≤ (9223372036854775807 : Int))) ∧ (((-9223372036854775808 : Int) ≤ (0 : Int)) ∧ ((0 : Int) ≤ (9223372036854775807 : Int)))))) ∧ ((((t.okl (d13.o)) ∧ (((std.slen (nmS t ms d13.i)) ≤ 1000000) ∧ ((((-9223372036854775808 : Int) ≤ (t.pick qs (d13.i))) ∧ ((t.pick qs (d13.i)) ≤ (9223372036854775807 : Int))) ∧ (((-9223372036854775808 : Int) ≤ (t.pick bs (d13.i))) ∧ ((t.pick bs (d13.i)) ≤ (9223372036854775807 : Int)))))) ∧ (((1 : Int) ≤ (kdS g ks d13.i)) ∧ ((kdS g ks d13.i) ≤ (3 : Int)))) ∧ (spBody g t ks ms qs bs raw I m d13 (t.stk (1 : Int) (d13.l) (nmS t ms d13.i) (t.pick qs (d13.i)) (0 : Int)) (t.rstk (kdS g ks d13.i) (d13.o) (nmS t ms d13.i) (t.pick qs (d13.i)) (t.pick bs (d13.i))) (t.ster (1 : Int) (d13.l) (nmS t ms d13.i) (t.pick qs (d13.i)) (0 : Int)) (t.rster (kdS g ks d13.i) (d13.o) (nmS t ms d13.i) (t.pick qs (d13.i)) (t.pick bs (d13.i))))))) ∧ ((((kdS g ks d13.i) == (1 : Int)) = false) → (((((kdS g ks d13.i) == (2 : Int)) = true) → (((t.okl (d13.l)) ∧ (((std.slen (nmS t ms d13.i)) ≤ 1000000) ∧ ((((-9223372036854775808 : Int) ≤ (t.pick qs (d13.i))) ∧ ((t.pick qs (d13.i)) ≤ (9223372036854775807 : Int))) ∧ (((-9223372036854775808 : Int) ≤ (0 : Int)) ∧ ((0 : Int) ≤ (9223372036854775807 : Int)))))) ∧ ((((t.okl (d13.o)) ∧ (((std.slen (nmS t ms d13.i)) ≤ 1000000) ∧ ((((-9223372036854775808 : Int) ≤ (t.pick qs (d13.i))) ∧ ((t.pick qs (d13.i)) ≤ (9223372036854775807 : Int))) ∧ (((-9223372036854775808 : Int) ≤ (t.pick bs (d13.i))) ∧ ((t.pick bs (d13.i)) ≤ (9223372036854775807 : Int)))))) ∧ (((1 : Int) ≤ (kdS g ks d13.i)) ∧ ((kdS g ks d13.i) ≤ (3 : Int)))) ∧ (spBody g t ks ms qs bs raw I m d13 (t.stk (2 : Int) (d13.l) (nmS t ms d13.i) (t.pick qs (d13.i)) (0 : Int)) (t.rstk (kdS g ks d13.i) (d13.o) (nmS t ms d13.i) (t.pick qs (d13.i)) (t.pick bs (d13.i))) (t.ster (2 : Int) (d13.l) (nmS t ms d13.i) (t.pick qs (d13.i)) (0 : Int)) (t.rster (kdS g ks d13.i) (d13.o) (nmS t ms d13.i) (t.pick qs (d13.i)) (t.pick bs (d13.i))))))) ∧ ((((kdS g ks d13.i) == (2 : Int)) = false) → (((t.okl (d13.l)) ∧ (((std.slen (nmS t ms d13.i)) ≤ 1000000) ∧ ((((-9223372036854775808 : Int) ≤ (t.pick qs (d13.i))) ∧ ((t.pick qs (d13.i)) ≤ (9223372036854775807 : Int))) ∧ (((-9223372036854775808 : Int) ≤ (t.pick bs (d13.i))) ∧ ((t.pick bs (d13.i)) ≤ (9223372036854775807 : Int)))))) ∧ ((((t.okl (d13.o)) ∧ (((std.slen (nmS t ms d13.i)) ≤ 1000000) ∧ ((((-9223372036854775808 : Int) ≤ (t.pick qs (d13.i))) ∧ ((t.pick qs (d13.i)) ≤ (9223372036854775807 : Int))) ∧ (((-9223372036854775808 : Int) ≤ (t.pick bs (d13.i))) ∧ ((t.pick bs (d13.i)) ≤ (9223372036854775807 : Int)))))) ∧ (((1 : Int) ≤ (kdS g ks d13.i)) ∧ ((kdS g ks d13.i) ≤ (3 : Int)))) ∧ (spBody g t ks ms qs bs raw I m d13 (t.stk (3 : Int) (d13.l) (nmS t ms d13.i) (t.pick qs (d13.i)) (t.pick bs (d13.i))) (t.rstk (kdS g ks d13.i) (d13.o) (nmS t ms d13.i) (t.pick qs (d13.i)) (t.pick bs (d13.i))) (t.ster (3 : Int) (d13.l) (nmS t ms d13.i) (t.pick qs (d13.i)) (t.pick bs (d13.i))) (t.rster (kdS g ks d13.i) (d13.o) (nmS t ms d13.i) (t.pick qs (d13.i)) (t.pick bs (d13.i)))))))))))))))))))))) ∧ (((decide ((d13.i) < (20 : Int))) = false) → (spTail t raw)))) ∧ (((decide ((d13.i) < ((List.length ks) : Int))) = false) → (spTail t raw)))))))))) := by kernel_rfl
end Go.Proofs.Ytecdmdglkkeidaa
end
section
namespace Go.Abs
open Go Go.ChangeShapes Go.WideShapes Go.RowKit

section
variable {H : Type} {enc : TypeId × Value → H} {P : Program} {w : World} {base : Nat} {spare : Nat → Bool} {held : Bool}
theorem trodAll_one' {t0 : TypeId} {args : Array Value} {ds : List (DataW H)} {ps : List MemPlace} (h : DataW.TrodAll enc P w base spare held [t0] args.toList ds ps) :
    ∃ v0 d0 p0, args = #[v0] ∧ ds = [d0] ∧ ps = p0 ++ [] ∧ DataW.Trod enc P w base spare held t0 v0 d0 p0 := by
  obtain ⟨v0, r0, d0, s0, p0, q0, e0, rfl, rfl, g0, k0⟩ := trodAll_cons h
  obtain ⟨rfl, rfl, rfl⟩ := trodAll_nil k0
  exact ⟨v0, d0, p0, Array.toList_inj.1 e0, rfl, rfl, g0⟩
theorem trodAll_two' {t0 t1 : TypeId} {args : Array Value} {ds : List (DataW H)} {ps : List MemPlace} (h : DataW.TrodAll enc P w base spare held [t0, t1] args.toList ds ps) :
    ∃ v0 v1 d0 d1 p0 p1, args = #[v0, v1] ∧ ds = [d0, d1] ∧ ps = p0 ++ p1 ++ [] ∧ DataW.Trod enc P w base spare held t0 v0 d0 p0 ∧ DataW.Trod enc P w base spare held t1 v1 d1 p1 := by
  obtain ⟨v0, r0, d0, s0, p0, q0, e0, rfl, rfl, g0, k0⟩ := trodAll_cons h
  obtain ⟨v1, r1, d1, s1, p1, q1, rfl, rfl, rfl, g1, k1⟩ := trodAll_cons k0
  obtain ⟨rfl, rfl, rfl⟩ := trodAll_nil k1
  exact ⟨v0, v1, d0, d1, p0, p1, Array.toList_inj.1 e0, rfl, by simp only [List.append_assoc], g0, g1⟩
theorem trodAll_three' {t0 t1 t2 : TypeId} {args : Array Value} {ds : List (DataW H)} {ps : List MemPlace} (h : DataW.TrodAll enc P w base spare held [t0, t1, t2] args.toList ds ps) :
    ∃ v0 v1 v2 d0 d1 d2 p0 p1 p2, args = #[v0, v1, v2] ∧ ds = [d0, d1, d2] ∧ ps = p0 ++ p1 ++ p2 ++ [] ∧ DataW.Trod enc P w base spare held t0 v0 d0 p0 ∧ DataW.Trod enc P w base spare held t1 v1 d1 p1 ∧ DataW.Trod enc P w base spare held t2 v2 d2 p2 := by
  obtain ⟨v0, r0, d0, s0, p0, q0, e0, rfl, rfl, g0, k0⟩ := trodAll_cons h
  obtain ⟨v1, r1, d1, s1, p1, q1, rfl, rfl, rfl, g1, k1⟩ := trodAll_cons k0
  obtain ⟨v2, r2, d2, s2, p2, q2, rfl, rfl, rfl, g2, k2⟩ := trodAll_cons k1
  obtain ⟨rfl, rfl, rfl⟩ := trodAll_nil k2
  exact ⟨v0, v1, v2, d0, d1, d2, p0, p1, p2, Array.toList_inj.1 e0, rfl, by simp only [List.append_assoc], g0, g1, g2⟩
theorem trodAll_four' {t0 t1 t2 t3 : TypeId} {args : Array Value} {ds : List (DataW H)} {ps : List MemPlace} (h : DataW.TrodAll enc P w base spare held [t0, t1, t2, t3] args.toList ds ps) :
    ∃ v0 v1 v2 v3 d0 d1 d2 d3 p0 p1 p2 p3, args = #[v0, v1, v2, v3] ∧ ds = [d0, d1, d2, d3] ∧ ps = p0 ++ p1 ++ p2 ++ p3 ++ [] ∧ DataW.Trod enc P w base spare held t0 v0 d0 p0 ∧ DataW.Trod enc P w base spare held t1 v1 d1 p1 ∧ DataW.Trod enc P w base spare held t2 v2 d2 p2 ∧ DataW.Trod enc P w base spare held t3 v3 d3 p3 := by
  obtain ⟨v0, r0, d0, s0, p0, q0, e0, rfl, rfl, g0, k0⟩ := trodAll_cons h
  obtain ⟨v1, r1, d1, s1, p1, q1, rfl, rfl, rfl, g1, k1⟩ := trodAll_cons k0
  obtain ⟨v2, r2, d2, s2, p2, q2, rfl, rfl, rfl, g2, k2⟩ := trodAll_cons k1
  obtain ⟨v3, r3, d3, s3, p3, q3, rfl, rfl, rfl, g3, k3⟩ := trodAll_cons k2
  obtain ⟨rfl, rfl, rfl⟩ := trodAll_nil k3
  exact ⟨v0, v1, v2, v3, d0, d1, d2, d3, p0, p1, p2, p3, Array.toList_inj.1 e0, rfl, by simp only [List.append_assoc], g0, g1, g2, g3⟩
theorem trodAll_five' {t0 t1 t2 t3 t4 : TypeId} {args : Array Value} {ds : List (DataW H)} {ps : List MemPlace} (h : DataW.TrodAll enc P w base spare held [t0, t1, t2, t3, t4] args.toList ds ps) :
    ∃ v0 v1 v2 v3 v4 d0 d1 d2 d3 d4 p0 p1 p2 p3 p4, args = #[v0, v1, v2, v3, v4] ∧ ds = [d0, d1, d2, d3, d4] ∧ ps = p0 ++ p1 ++ p2 ++ p3 ++ p4 ++ [] ∧ DataW.Trod enc P w base spare held t0 v0 d0 p0 ∧ DataW.Trod enc P w base spare held t1 v1 d1 p1 ∧ DataW.Trod enc P w base spare held t2 v2 d2 p2 ∧ DataW.Trod enc P w base spare held t3 v3 d3 p3 ∧ DataW.Trod enc P w base spare held t4 v4 d4 p4 := by
  obtain ⟨v0, r0, d0, s0, p0, q0, e0, rfl, rfl, g0, k0⟩ := trodAll_cons h
  obtain ⟨v1, r1, d1, s1, p1, q1, rfl, rfl, rfl, g1, k1⟩ := trodAll_cons k0
  obtain ⟨v2, r2, d2, s2, p2, q2, rfl, rfl, rfl, g2, k2⟩ := trodAll_cons k1
  obtain ⟨v3, r3, d3, s3, p3, q3, rfl, rfl, rfl, g3, k3⟩ := trodAll_cons k2
  obtain ⟨v4, r4, d4, s4, p4, q4, rfl, rfl, rfl, g4, k4⟩ := trodAll_cons k3
  obtain ⟨rfl, rfl, rfl⟩ := trodAll_nil k4
  exact ⟨v0, v1, v2, v3, v4, d0, d1, d2, d3, d4, p0, p1, p2, p3, p4, Array.toList_inj.1 e0, rfl, by simp only [List.append_assoc], g0, g1, g2, g3, g4⟩
theorem trodAll_six' {t0 t1 t2 t3 t4 t5 : TypeId} {args : Array Value} {ds : List (DataW H)} {ps : List MemPlace} (h : DataW.TrodAll enc P w base spare held [t0, t1, t2, t3, t4, t5] args.toList ds ps) :
    ∃ v0 v1 v2 v3 v4 v5 d0 d1 d2 d3 d4 d5 p0 p1 p2 p3 p4 p5, args = #[v0, v1, v2, v3, v4, v5] ∧ ds = [d0, d1, d2, d3, d4, d5] ∧ ps = p0 ++ p1 ++ p2 ++ p3 ++ p4 ++ p5 ++ [] ∧ DataW.Trod enc P w base spare held t0 v0 d0 p0 ∧ DataW.Trod enc P w base spare held t1 v1 d1 p1 ∧ DataW.Trod enc P w base spare held t2 v2 d2 p2 ∧ DataW.Trod enc P w base spare held t3 v3 d3 p3 ∧ DataW.Trod enc P w base spare held t4 v4 d4 p4 ∧ DataW.Trod enc P w base spare held t5 v5 d5 p5 := by
  obtain ⟨v0, r0, d0, s0, p0, q0, e0, rfl, rfl, g0, k0⟩ := trodAll_cons h
  obtain ⟨v1, r1, d1, s1, p1, q1, rfl, rfl, rfl, g1, k1⟩ := trodAll_cons k0
  obtain ⟨v2, r2, d2, s2, p2, q2, rfl, rfl, rfl, g2, k2⟩ := trodAll_cons k1
  obtain ⟨v3, r3, d3, s3, p3, q3, rfl, rfl, rfl, g3, k3⟩ := trodAll_cons k2
  obtain ⟨v4, r4, d4, s4, p4, q4, rfl, rfl, rfl, g4, k4⟩ := trodAll_cons k3
  obtain ⟨v5, r5, d5, s5, p5, q5, rfl, rfl, rfl, g5, k5⟩ := trodAll_cons k4
  obtain ⟨rfl, rfl, rfl⟩ := trodAll_nil k5
  exact ⟨v0, v1, v2, v3, v4, v5, d0, d1, d2, d3, d4, d5, p0, p1, p2, p3, p4, p5, Array.toList_inj.1 e0, rfl, by simp only [List.append_assoc], g0, g1, g2, g3, g4, g5⟩
end
/-- A slice that came in. -/
def SlIn (w : World) (z v : Value) : Prop := ∃ xs, xs.length ≤ maxLen ∧ (∀ x ∈ xs, RawOk z x) ∧ DRa (zW w) (dsl z xs) v
/-- Numbers that came in. -/
theorem ints_ok {k : IntKind} {n : Int} {xs : List Value} (h : ∀ x ∈ xs, RawOk (.int k n) x) : ∀ (i : Nat) d, i < xs.length → ∃ m, xs.getD i d = .int k m ∧ (Lit.int k m).wf = true := by
  intro i d hi
  rw [List.getD_eq_getElem?_getD, List.getElem?_eq_getElem hi]
  have := h _ (List.getElem_mem hi)
  generalize xs[i] = u at this
  cases this with
  | int hw => exact ⟨_, rfl, hw⟩
end Go.Abs
end
section
namespace Go.Proofs.Ytecdmdglkkeidaa
open Go.RowKit Go.Abs Go
theorem wi_run (n lo hi : Int) (_hn : -9223372036854775808 ≤ n ∧ n ≤ 9223372036854775807) (h1 : -1000000000000 ≤ lo) (h2 : lo ≤ hi) (h3 : hi ≤ 2000000000000) : runP std noCon 40 noL (withinP std kvF) 15 Try.f15 (n, lo, hi, ()) := by
  rw [within_vc]
  have hm : std.rem n ((hi - lo) + 1) = n.tmod (hi - lo + 1) := rfl
  rw [hm]
  have b1 := Int.emod_nonneg n (show hi - lo + 1 ≠ 0 by omega)
  have b2 := Int.emod_lt_of_pos n (show 0 < hi - lo + 1 by omega)
  have key : (0 ≤ n.tmod (hi - lo + 1) ∧ n.tmod (hi - lo + 1) = n % (hi - lo + 1)) ∨ (n.tmod (hi - lo + 1) < 0 ∧ n.tmod (hi - lo + 1) + (hi - lo + 1) = n % (hi - lo + 1)) := by
    have := Int.tmod_eq_emod (a := n) (b := hi - lo + 1)
    split at this <;> rename_i c
    · left; omega
    · by_cases z : n % (hi - lo + 1) = 0
      · exfalso
        exact c (.inr (Int.dvd_of_emod_eq_zero z))
      · right; omega
  generalize n.tmod (hi - lo + 1) = r at key ⊢
  have hw : kvF.wi n lo hi = lo + n % (hi - lo + 1) := rfl
  rw [hw]
  generalize n % (hi - lo + 1) = u at key b1 b2 ⊢
  refine ⟨by omega, by omega, by omega, fun h => ⟨by have := of_decide_eq_true h; omega, by have := of_decide_eq_true h; omega, by have := of_decide_eq_true h; omega, by have := of_decide_eq_true h; omega, ?_⟩, fun h => ⟨by have := of_decide_eq_false h; omega, ?_⟩⟩
  · have := of_decide_eq_true h
    rw [show lo + (r + hi - lo + 1) = lo + u by omega]
  · have := of_decide_eq_false h
    rw [show r = u by omega]
theorem wi_ok : PFOk Try.prog 15 (withinP std kvF) :=
  pf_ok (LS := fun _ => noL) Try.progOk (noCon_ok _) (inCallF_ok 60) (withinP std kvF) Try.func15 (show _ = some (bodyS Try.prog 15) by kernel_rfl) fun d hd => wi_run d.1 d.2.1 d.2.2.1 (inI_std hd.1) hd.2.1 hd.2.2.1 hd.2.2.2
theorem wi_in2 {n lo hi : Int} (h : lo ≤ hi) : lo ≤ kvF.wi n lo hi ∧ kvF.wi n lo hi ≤ hi := by
  have b1 := Int.emod_nonneg n (show hi - lo + 1 ≠ 0 by omega)
  have b2 := Int.emod_lt_of_pos n (show 0 < hi - lo + 1 by omega)
  show lo ≤ lo + n % (hi - lo + 1) ∧ lo + n % (hi - lo + 1) ≤ hi
  omega
def inR (n : Int) : Prop := -9223372036854775808 ≤ n ∧ n ≤ 9223372036854775807
theorem sl_ints {l : List Value} (hl : ∀ x ∈ l, RawOk zI x) : IntsOk l := fun i hi => by
  obtain ⟨m, e, hw⟩ := ints_ok hl i zI hi
  unfold eI
  rw [e]; exact i64_range hw
end Go.Proofs.Ytecdmdglkkeidaa
end
section
namespace Go.Proofs.Ytecdmdglkkeidaa
open Go Go.Abs Go.RowKit Go.ChangeShapes Go.WideShapes Go.ChangeAt Go.ChangeMaps
theorem pick_range {xs : List Value} (i : Int) : 0 ≤ pickF xs i ∧ pickF xs i ≤ 1073741824 := by
  unfold pickF
  split
  · omega
  · omega
theorem pick_run (xs : List Value) (i : Int) (hx : IntsOk xs) (hi : 0 ≤ i) : runP std (pickCon std) 40 noL (pickP std stF) 16 Try.f16 (xs, i, ()) := by
  rw [pick_vc]
  refine ⟨fun h1 => ?_, fun h2 => ?_⟩
  · have h1 : xs.length = 0 := by simpa using h1
    show _ = [Value.int .i64 (pickF xs i)]
    unfold pickF; rw [if_pos h1]
  · have h2 : ¬ xs.length = 0 := by simpa using h2
    have e : std.rem i (xs.length : Int) = Int.tmod i xs.length := rfl
    rw [e]
    have hm : Int.tmod i xs.length = i % xs.length := Int.tmod_eq_emod_of_nonneg hi
    have b1 := Int.emod_nonneg i (show (xs.length : Int) ≠ 0 by omega)
    have b2 := Int.emod_lt_of_pos i (show 0 < (xs.length : Int) by omega)
    refine ⟨by omega, by omega, hx _ (by omega), fun r h3 h4 => ?_⟩
    show _ = [Value.int .i64 (pickF xs i)]
    unfold pickF
    rw [if_neg h2, h4, Int.zero_add]
theorem pickCon_ok : ConOk Try.prog (pickCon std) := conL_ok fun x hx => by rw [List.mem_singleton.1 hx]; exact withinC_ok
theorem pick_ok : PFOk Try.prog 16 (pickP std stF) :=
  pf_ok (LS := fun _ => noL) Try.progOk pickCon_ok (inCallF_ok 60) (pickP std stF) Try.func16 (show _ = some (bodyS Try.prog 16) by kernel_rfl) fun d hd => pick_run d.1 d.2.1 hd.1 hd.2.1
theorem stk_right {xs : List Value} (hR : RightL xs) (k : Int) (s : ByteArray) (a b : Int) : RightL (stkF k xs s a b).1 := by
  unfold stkF
  split
  · exact hR
  · rename_i h
    split
    · exact hR
    · split
      · exact hR
      · split
        · exact hR
        · unfold stkTail
          split
          · rename_i hroom
            split
            · have h4 : ¬ (16 : Int) < (lenB (keyS s) : Int) := by
                intro h4
                apply h
                rw [decide_eq_true h4]; simp
              exact (set_room hR (may_key (keyOk_of h4) (by have := recB_len (turnF k a b (rtokF (getF xs (keyS s))) (rrewF (getF xs (keyS s)))).1 (turnF k a b (rtokF (getF xs (keyS s))) (rrewF (getF xs (keyS s)))).2.1; omega)) hroom).1
            · exact hR
          · exact hR
theorem stk_b {k : Int} (h : k = 1 ∨ k = 2) (xs : List Value) (s : ByteArray) (a b : Int) : stkF k xs s a b = stkF k xs s a 0 := by
  rcases h with rfl | rfl <;> rfl
def spI (ks : List Value) (d : SpL) : Prop := d.o = d.l ∧ RightL d.l ∧ ∃ i : Nat, d.i = i ∧ i ≤ 20 ∧ i ≤ ks.length
def spM (d : SpL) : Nat := (20 - d.i).toNat
theorem spBody_ok (ks ms qs bs : List Value) (raw : ByteArray) {d : SpL} {i : Nat} (hi : d.i = i) (h20 : i < 20) (hk : i < ks.length) (hd : RightL d.l) {L : List Value} (hL : RightL L) {E : Int} : spBody kvF stF ks ms qs bs raw (spI ks) spM d L L E E := by
  have hl := right_vals hL
  have hdl := right_vals hd
  have v1 : L.length ≤ 1000000 ∧ ∀ i, i < L.length → std.slen (vP L i) ≤ 4000000 := ⟨by omega, fun i hi => by have := hl.2 i hi; show lenB (vP L i) ≤ _; omega⟩
  have no : ∀ {x : List Value}, kvF.same x x = false → False := fun {x} h => by
    have h : sameF x x = false := h
    rw [same_self] at h; cases h
  have neq : ∀ {a b : Int}, a = b → (!(a == b)) = true → [Value.bool false] = [Value.bool true] := fun h h2 => by rw [h] at h2; simp at h2
  have next : (-9223372036854775808 ≤ d.i + 1 ∧ d.i + 1 ≤ 9223372036854775807) ∧ ∃ e : SpL, [Filler.dl ks, .dl ms, .dl qs, .dl bs, .val (.string raw), .dl e.l, .dl e.o, .val (.int .i64 e.i)] = [Filler.dl ks, .dl ms, .dl qs, .dl bs, .val (.string raw), .dl L, .dl L, .val (.int .i64 (d.i + 1))] ∧ Nat.le (Nat.succ (spM e)) (spM d) ∧ spI ks e := by
    refine ⟨by omega, ⟨L, L, d.i + 1⟩, rfl, ?_, rfl, hL, i + 1, by show d.i + 1 = _; omega, h20, hk⟩
    show (20 - (d.i + 1)).toNat + 1 ≤ (20 - d.i).toNat; omega
  have tl : d.l.length ≤ 1000000 ∧ ((kvF.same d.l d.l = true → _) ∧ (kvF.same d.l d.l = false → [Value.bool false] = [Value.bool true])) := ⟨by omega, fun _ => next, fun h => (no h).elim⟩
  have ne2 : ∀ {b c : Bool}, bokF L = b → bokF L = c → b ≠ c → False := fun h1 h2 h3 => h3 (h1.symm.trans h2)
  refine ⟨v1, fun h2 => ⟨v1, fun _ => ⟨neq rfl, fun _ => ⟨by omega, fun _ => ⟨neq rfl, fun _ => tl⟩, fun h => (no h).elim⟩⟩, fun h13 => (ne2 h2 h13 (by decide)).elim⟩, fun h20 => ⟨v1, fun h22 => (ne2 h20 h22 (by decide)).elim, fun _ => ⟨neq rfl, fun _ => ⟨by omega, fun _ => ⟨neq rfl, fun _ => tl⟩, fun h => (no h).elim⟩⟩⟩⟩
theorem spTail_ok (raw : ByteArray) : spTail stF raw := by
  have m : ∀ n : Nat, (std.imin (n : Int) 12).toNat ≤ 12 ∧ 0 ≤ std.imin (n : Int) 12 ∧ std.imin (n : Int) 12 ≤ (n : Int) := fun n => by
    show (if (12 : Int) < (n : Int) then (12 : Int) else n).toNat ≤ 12 ∧ 0 ≤ (if (12 : Int) < (n : Int) then (12 : Int) else n) ∧ (if (12 : Int) < (n : Int) then (12 : Int) else n) ≤ (n : Int)
    split <;> omega
  have hm := m (std.slen raw)
  have hl : std.slen (std.ssub raw 0 (std.imin (std.slen raw : Int) 12).toNat) ≤ 12 := by
    show (((raw.data.toList.drop 0).take ((std.imin (std.slen raw : Int) 12).toNat - 0)).toArray.toList).length ≤ 12
    rw [List.toList_toArray, List.length_take]
    omega
  have eq : ∀ {a b : Int}, a = b → (a == b) = false → [Value.bool false] = [Value.bool true] := fun h h2 => by rw [h] at h2; simp at h2
  unfold spTail
  generalize std.ssub raw 0 (std.imin (std.slen raw : Int) 12).toNat = s at hl ⊢
  have ne2 : ∀ {b c : Bool}, rokF s = b → rokF s = c → b ≠ c → [Value.bool false] = [Value.bool true] := fun h1 h2 h3 => absurd (h1.symm.trans h2) h3
  have hb : (0 ≤ std.imin (std.slen raw : Int) 12 ∧ std.imin (std.slen raw : Int) 12 ≤ (std.slen raw : Int)) ∧ True := ⟨⟨hm.2.1, hm.2.2⟩, trivial⟩
  have h4 : std.slen s ≤ 4000000 := by omega
  exact ⟨hb, h4, fun h1 => ⟨hb, h4, fun _ => ⟨fun _ => ⟨fun _ => rfl, fun h => eq rfl h⟩, fun h => eq rfl h⟩, fun h7 => ⟨fun _ => ⟨fun _ => ne2 h1 h7 (by decide), fun _ => ne2 h1 h7 (by decide)⟩, fun _ => ne2 h1 h7 (by decide)⟩⟩,
    fun h12 => ⟨hb, h4, fun h13 => ⟨fun _ => ⟨fun _ => ne2 h12 h13 (by decide), fun _ => ne2 h12 h13 (by decide)⟩, fun _ => ne2 h12 h13 (by decide)⟩, fun _ => ⟨fun _ => ⟨fun _ => rfl, fun h => eq rfl h⟩, fun h => eq rfl h⟩⟩⟩
theorem nmS_len (ms : List Value) (i : Int) : std.slen (nmS stF ms i) ≤ 1000000 ∧ 0 ≤ std.rem (stF.pick ms i) 6 ∧ std.rem (stF.pick ms i) 6 < ((stNames.length : Nat) : Int) := by
  have h1 := pick_range (xs := ms) i
  have h2 : std.rem (stF.pick ms i) 6 = pickF ms i % 6 := by
    show Int.tmod (pickF ms i) 6 = _
    exact Int.tmod_eq_emod_of_nonneg h1.1
  have h3 : ∀ j, j < 6 → lenB (eS stNames j) ≤ 1000000 := by decide +kernel
  refine ⟨?_, by omega, by rw [show stNames.length = 6 from rfl]; omega⟩
  unfold nmS
  exact h3 _ (by rw [h2]; omega)
theorem sp_run (xs ks ms qs bs : List Value) (raw : ByteArray) (hx : IntsOk xs) (hk : IntsOk ks) (hm : IntsOk ms) (hq : IntsOk qs) (hb : IntsOk bs) : Holds (runP std (spCon std kvF stF) 90 (spLs ks ms qs bs raw (spI ks) spM) spP 4 Try.f4 (xs, ks, ms, qs, bs, raw, ())) := by
  constructor
  rw [sp_vc]
  have hp := pairs_right xs
  have hpl := (right_vals hp).1
  refine ⟨hx, by show (pairsF xs).length * 32 ≤ _; omega, ⟨pairsF xs, pairsF xs, 0⟩, rfl, ⟨rfl, hp, 0, rfl, Nat.zero_le _, Nat.zero_le _⟩, fun ⟨l, o, di⟩ ⟨ho, hR, i, hi, h20, hle⟩ => ⟨fun h3 => ⟨fun h4 => ?_, fun _ => spTail_ok raw⟩, fun _ => spTail_ok raw⟩⟩
  dsimp only at ho hR hi h3 h4 ⊢
  subst ho
  subst hi
  have h3 := of_decide_eq_true h3
  have h4 := of_decide_eq_true h4
  have hlt : i < ks.length := by omega
  obtain ⟨n1, n2, n3⟩ := nmS_len ms i
  have hkd : 1 ≤ kdS kvF ks i ∧ kdS kvF ks i ≤ 3 := wi_in2 (by omega)
  have hll := (right_vals hR).1
  have pa := pick_range (xs := qs) i
  have pb := pick_range (xs := bs) i
  generalize nmS stF ms i = nm at n1 ⊢
  generalize kdS kvF ks i = kd at hkd ⊢
  have body : ∀ (L O : List Value) (E F : Int), L = O → E = F → RightL L → spBody kvF stF ks ms qs bs raw (spI ks) spM ⟨o, o, i⟩ L O E F := fun L O E F h1 h2 h3 => by
    subst h1; subst h2
    exact spBody_ok ks ms qs bs raw rfl (by omega) hlt hR h3
  have go : ∀ (k a b c : Int), kd = k → (k = 3 ∨ c = 0) → (k = 1 ∨ k = 2 ∨ c = b) → spBody kvF stF ks ms qs bs raw (spI ks) spM ⟨o, o, i⟩ (stF.stk k o nm a c) (stF.rstk kd o nm a b) (stF.ster k o nm a c) (stF.rster kd o nm a b) := fun k a b c h1 h2 h3 => by
    subst h1
    have e : stkF kd o nm a c = stkF kd o nm a b := by
      rcases h3 with h | h | h
      · rw [stk_b (.inl h), stk_b (.inl h) o nm a b]
      · rw [stk_b (.inr h), stk_b (.inr h) o nm a b]
      · rw [h]
    refine body _ _ _ _ ?_ ?_ (stk_right hR _ _ _ _)
    · show (stkF kd o nm a c).1 = (stkF kd o nm a b).1; rw [e]
    · show (stkF kd o nm a c).2 = (stkF kd o nm a b).2; rw [e]
  have pre : ∀ a b : Int, -1 ≤ a → a ≤ 1073741824 → 0 ≤ b → b ≤ 1073741824 → stF.okl o ∧ std.slen nm ≤ 1000000 ∧ (-9223372036854775808 ≤ a ∧ a ≤ 9223372036854775807) ∧ -9223372036854775808 ≤ b ∧ b ≤ 9223372036854775807 := fun a b h1 h2 h3 h4 => ⟨hR, n1, by omega, by omega⟩
  have qa : -1 ≤ stF.pick qs i ∧ stF.pick qs i ≤ 1073741824 := by show -1 ≤ pickF qs i ∧ pickF qs i ≤ _; omega
  have qb : 0 ≤ stF.pick bs i ∧ stF.pick bs i ≤ 1073741824 := pb
  have three : (kd == 1) = false → (kd == 2) = false → kd = 3 := fun h1 h2 => by
    have h1 : ¬ kd = 1 := by simpa using h1
    have h2 : ¬ kd = 2 := by simpa using h2
    omega
  refine ⟨by omega, ⟨hk _ (by omega), by omega⟩, ⟨hm, by omega⟩, by omega, ⟨n2, n3⟩, ⟨hq, by omega⟩, ⟨hb, by omega⟩, by omega, fun _ => ⟨by omega, fun h9 => ⟨pre _ _ (by omega) (by omega) (by omega) (by omega), ⟨pre _ _ (by omega) (by omega) (by omega) (by omega), hkd⟩, go 1 _ _ _ (by simpa using h9) (.inr rfl) (.inl rfl)⟩, fun h10 => ⟨fun h11 => ⟨pre _ _ (by omega) (by omega) (by omega) (by omega), ⟨pre _ _ (by omega) (by omega) (by omega) (by omega), hkd⟩, go 2 _ _ _ (by simpa using h11) (.inr rfl) (.inr (.inl rfl))⟩, fun h12 => ⟨pre _ _ (by omega) (by omega) (by omega) (by omega), ⟨pre _ _ (by omega) (by omega) (by omega) (by omega), hkd⟩, go 3 _ _ _ (three h10 h12) (.inl rfl) (.inr (.inr rfl))⟩⟩⟩,
    fun _ => ⟨by omega, fun h9 => ⟨pre _ _ qa.1 qa.2 (by omega) (by omega), ⟨pre _ _ qa.1 qa.2 qb.1 qb.2, hkd⟩, go 1 _ _ _ (by simpa using h9) (.inr rfl) (.inl rfl)⟩, fun h10 => ⟨fun h11 => ⟨pre _ _ qa.1 qa.2 (by omega) (by omega), ⟨pre _ _ qa.1 qa.2 qb.1 qb.2, hkd⟩, go 2 _ _ _ (by simpa using h11) (.inr rfl) (.inr (.inl rfl))⟩, fun h12 => ⟨pre _ _ qa.1 qa.2 qb.1 qb.2, ⟨pre _ _ qa.1 qa.2 qb.1 qb.2, hkd⟩, go 3 _ _ _ (three h10 h12) (.inl rfl) (.inr (.inr rfl))⟩⟩⟩⟩
theorem stRuns_closed : (callN vbeq Try.prog X0 1000 3 [] H0).map (·.1) = some (.bool true) := by rw [callF_eq]; kernel_rfl
theorem spCon_ok : ConOk Try.prog (spCon std kvF stF) := conL_ok fun x hx => by
  simp only [List.mem_cons, List.not_mem_nil, or_false] at hx
  rcases hx with rfl | rfl | rfl | rfl | rfl | rfl | rfl | rfl | rfl | rfl | rfl | rfl | rfl
  · exact pcon_ok pairs_ok
  · exact pcon_ok wi_ok
  · exact pcon_ok pick_ok
  · exact pcon_ok delg_ok
  · exact pcon_ok rwd_ok
  · exact pcon_ok sla_ok
  · exact pcon_ok rstk_ok
  · exact pcon_ok bck_ok
  · exact pcon_ok rbck_ok
  · exact pcon_ok same_ok
  · exact pcon_ok rd_ok
  · exact pcon_ok qrd_ok
  · exact closedC_ok (knownOk_none _) Try.func3 (show _ = some (bodyS Try.prog 3) by kernel_rfl) rfl stRuns_closed
noncomputable def spQ : PF := pf (.cons cIs (.cons cIs (.cons cIs (.cons cIs (.cons cIs (.cons cS .nil)))))) (fun d => IntsOk d.1 ∧ IntsOk d.2.1 ∧ IntsOk d.2.2.1 ∧ IntsOk d.2.2.2.1 ∧ IntsOk d.2.2.2.2.1) [.bool false] fun _ => [.bool true]
theorem sp_ok : PFOk Try.prog 4 spQ :=
  pf_ok (LS := fun d => spLs d.2.1 d.2.2.1 d.2.2.2.1 d.2.2.2.2.1 d.2.2.2.2.2.1 (spI d.2.1) spM) Try.progOk spCon_ok (inCallF_ok 60) spQ Try.func4 (show _ = some (bodyS Try.prog 4) by kernel_rfl) fun d hd => by
    obtain ⟨xs, ks, ms, qs, bs, raw, u⟩ := d
    obtain ⟨h⟩ := sp_run xs ks ms qs bs raw hd.1 hd.2.1 hd.2.2.1 hd.2.2.2.1 hd.2.2.2.2
    exact h
theorem stakePlays_calls (w : World) (v0 : Value) (h0 : SlIn w zI v0) (v1 : Value) (h1 : SlIn w zI v1) (v2 : Value) (h2 : SlIn w zI v2) (v3 : Value) (h3 : SlIn w zI v3) (v4 : Value) (h4 : SlIn w zI v4) (s : ByteArray) (_hs : s.size ≤ maxLen) : Calls Try.prog 4 #[v0, v1, v2, v3, v4, .string s] w fun e w' => Below w.heap.size w w' ∧ e = .returned (.bool true) := by
  obtain ⟨l0, _, i0, d0⟩ := h0
  obtain ⟨l1, _, i1, d1⟩ := h1
  obtain ⟨l2, _, i2, d2⟩ := h2
  obtain ⟨l3, _, i3, d3⟩ := h3
  obtain ⟨l4, _, i4, d4⟩ := h4
  exact law_pf Try.progOk Try.func4 (show _ = some (bodyS Try.prog 4) by kernel_rfl) sp_ok rfl (d := (l0, l1, l2, l3, l4, s, ())) ⟨sl_ints i0, sl_ints i1, sl_ints i2, sl_ints i3, sl_ints i4⟩ rfl (xs := [dsl zI l0, dsl zI l1, dsl zI l2, dsl zI l3, dsl zI l4, .string s]) (by kernel_rfl) (All2.cons d0 (All2.cons d1 (All2.cons d2 (All2.cons d3 (All2.cons d4 (All2.cons (.inl ⟨rfl, .plain rfl⟩) All2.nil))))))
set_option maxRecDepth 100000 in
theorem stakePlays_lifted (os : Os) (started : os.Started) (H : Type) (enc : TypeId × Value → H) :
    ReturnsInHanded {} Try.checked os 4 .any (Rows.stakePlaysSpec.pre6 enc Try.prog Try.f4 Rows.stakePlaysRow.domain false) (Rows.stakePlaysSpec.post enc Try.prog Try.f4 false true false false) := by
  refine returnsInHanded_of_change (C := Try.checked) Try.own started (by kernel_rfl) Try.func4
    (ChangeSpec.witness6 (enc := enc) (C := Try.checked) false ⟨#[], #[.slice none 0 0, .slice none 0 0, .slice none 0 0, .slice none 0 0, .slice none 0 0, .string ⟨#[]⟩], []⟩ 40 (by kernel_rfl) (by kernel_rfl) (by kernel_rfl) (by kernel_rfl)) ?_
  intro W base args ds gs before hval0 hW hcnd _
  have hval : ∀ (j : Nat) t v, Try.f4.params[j]? = some t → args[j]? = some v → Value.okWide Try.prog W .any base t v := hval0
  have hW' := hW
  obtain ⟨p, q, hA0, hV, rfl, hfz, hnd⟩ := hW
  have hA : DataW.TrodAll enc Try.prog W 0 (fun _ => true) true Try.f4.params.toList args.toList ds p := hA0
  rw [Try.params4] at hA hval
  have hAk := hA
  obtain ⟨v0, v1, v2, v3, v4, v5, d0, d1, d2, d3, d4, d5, p0, p1, p2, p3, p4, p5, rfl, rfl, rfl, h0, h1, h2, h3, h4, h5⟩ := trodAll_six' hA
  obtain ⟨rfl, rfl⟩ := trodVars_none hV
  have in0 : SlIn W zI v0 := arg_slice (n := 8) (by kernel_rfl) (by decide +kernel) Try.underlying33 (by kernel_rfl) (hval 0 33 v0 rfl rfl) h0
  have in1 : SlIn W zI v1 := arg_slice (n := 8) (by kernel_rfl) (by decide +kernel) Try.underlying33 (by kernel_rfl) (hval 1 33 v1 rfl rfl) h1
  have in2 : SlIn W zI v2 := arg_slice (n := 8) (by kernel_rfl) (by decide +kernel) Try.underlying33 (by kernel_rfl) (hval 2 33 v2 rfl rfl) h2
  have in3 : SlIn W zI v3 := arg_slice (n := 8) (by kernel_rfl) (by decide +kernel) Try.underlying33 (by kernel_rfl) (hval 3 33 v3 rfl rfl) h3
  have in4 : SlIn W zI v4 := arg_slice (n := 8) (by kernel_rfl) (by decide +kernel) Try.underlying33 (by kernel_rfl) (hval 4 33 v4 rfl rfl) h4
  obtain ⟨a5, rfl, rfl, rfl, wa5⟩ := open_string Try.underlying9 (hval 5 9 v5 rfl rfl) h5
  clear hA0 hval0
  have hlt : ∀ x ∈ p0 ++ p1 ++ p2 ++ p3 ++ p4 ++ [] ++ ([] : List MemPlace), x.block < W.heap.size := fun x hx => hW'.lt x (by simpa using hx)
  refine (stakePlays_calls W v0 in0 v1 in1 v2 in2 v3 in3 v4 in4 a5 wa5).mono fun e W' ⟨hb, he⟩ => ?_
  subst he
  exact ⟨_, rfl, post_below (pa := p0 ++ p1 ++ p2 ++ p3 ++ p4 ++ [] ++ []) (pv := []) hW' (fun _ _ _ => trodAll_mk1 (shut_bool Try.underlying4 true)) (fun sp hsp => trodAll_stays (by kernel_rfl) hb (by decide +kernel) hAk hlt (fun x hx => hsp x (by simpa using hx))) (fun _ _ => rfl) (by simp) hb (ok_one (by kernel_rfl) rfl (okWide_bool_mk Try.underlying4 true))⟩

theorem stakePlays_holds : Rows.StakePlaysSaid :=
  OpenClaim.holds_of_wide 4 Try.f4 rfl rfl rfl rfl rfl rfl rfl ⟨rfl, rfl, rfl, rfl, rfl⟩ rfl rfl rfl rfl rfl (by kernel_rfl) Try.func4 (by kernel_rfl)
    (of_decide_eq_true (by kernel_rfl)) (by unfold Func.isWrapper; first | (rw [if_pos (by decide +kernel)]; kernel_rfl) | (rw [if_neg (by decide +kernel)]; exact ⟨rfl, rfl⟩))
    (fun os started H enc _ => stakePlays_lifted os started H enc)
end Go.Proofs.Ytecdmdglkkeidaa
end
