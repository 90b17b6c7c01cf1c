/-
  MirrorPlays: any calls: each answer, what it keeps; a copy is by itself.
-/
import Derived.Test.YtmhfnbbamoadgaaMp1
import Derived.Test.YtmhfnbbamoadgaaFw5
import Derived.Lib.AppendZeros
import Derived.Lib.SlFresh
import Derived.Test.YtmhfnbbamoadgaaRows
section
namespace Go.Proofs.Ytmhfnbbamoadgaa
open Go.RowKit Go.Abs Go
set_option maxRecDepth 100000
theorem esF_zero (xs : List Value) : esF xs 0 = [] := rfl
theorem esF_next (xs : List Value) (i : Nat) : esF xs (i + 1) = mput zS (esF xs i) (.string (keyF (eI xs i))) (.string (txtF (Int.tdiv (eI xs i) 12))) := rfl
theorem outL_len (es : List (Value × Value)) : ∀ i, (outL es i).length ≤ i
  | 0 => Nat.le_refl _
  | i + 1 => by
    have := outL_len es i
    unfold outL
    split
    · simp; omega
    · omega
def pairI (xs : List Value) (d : PaL) : Prop := ∃ i : Nat, d.i = i ∧ i ≤ xs.length ∧ i ≤ 12 ∧ d.es = esF xs i
def pairJ (xs : List Value) (d : PaM) : Prop := d.n = 12 ∧ d.es = esF xs (min xs.length 12) ∧ ∃ i : Nat, d.i = i ∧ i ≤ 12 ∧ d.r = outL d.es i
theorem keysV_len : keysV.length = 12 := rfl
theorem tdiv_small {n : Int} (h : -9223372036854775808 ≤ n ∧ n ≤ 9223372036854775807) : -9223372036854775808 ≤ Int.tdiv n 12 ∧ Int.tdiv n 12 ≤ 9223372036854775807 := by
  have h1 : (Int.tdiv n 12).natAbs = n.natAbs / 12 := Int.natAbs_tdiv n 12
  omega
theorem pairs2 (xs : List Value) {es : List (Value × Value)} (he : es = esF xs (min xs.length 12)) : (∃ (d14 : PaM), (([(Filler.dl (d14.r)), (Filler.dl keysV), (Filler.val (Value.int IntKind.i64 (d14.n))), (Filler.val (Value.int IntKind.i64 (d14.i))), (Filler.me (d14.es))] = [(Filler.dl []), (Filler.dl [(Value.string (ByteArray.mk (Array.mk [(97 : UInt8)]))), (Value.string (ByteArray.mk (Array.mk [(97 : UInt8), (98 : UInt8)]))), (Value.string (ByteArray.mk (Array.mk [(97 : UInt8), (98 : UInt8), (99 : UInt8)]))), (Value.string (ByteArray.mk (Array.mk [(98 : UInt8)]))), (Value.string (ByteArray.mk (Array.mk [(98 : UInt8), (97 : UInt8)]))), (Value.string (ByteArray.mk (Array.mk [(115 : UInt8), (47 : UInt8), (97 : UInt8)]))), (Value.string (ByteArray.mk (Array.mk [(115 : UInt8), (47 : UInt8), (98 : UInt8)]))), (Value.string (ByteArray.mk (Array.mk [(115 : UInt8), (47 : UInt8), (99 : UInt8)]))), (Value.string (ByteArray.mk (Array.mk [(116 : UInt8)]))), (Value.string (ByteArray.mk (Array.mk [(117 : UInt8)]))), (Value.string (ByteArray.mk (Array.mk [(122 : UInt8)]))), (Value.string (ByteArray.mk (Array.mk [(122 : UInt8), (122 : UInt8)])))]), (Filler.val (Value.int IntKind.i64 (12 : Int))), (Filler.val (Value.int IntKind.i64 (0 : Int))), (Filler.me es)]) ∧ ((pairJ xs d14) ∧ (∀ (d15 : PaM), ((pairJ xs d15) → ((((decide ((d15.i) < (d15.n))) = true) → ((((0 : Int) ≤ (d15.i)) ∧ ((d15.i) < ((List.length keysV) : Int))) ∧ ((((std.mhas (Value.string (ByteArray.mk (Array.mk []))) (d15.es) (Value.string (eS keysV (Int.toNat (d15.i))))) = true) → ((((List.length ((d15.r) ++ [(Value.agg (Array.mk [(Value.string (eS keysV (Int.toNat (d15.i)))), (Value.string (std.dstr (std.mget (Value.string (ByteArray.mk (Array.mk []))) (Value.string (ByteArray.mk (Array.mk []))) (d15.es) (Value.string (eS keysV (Int.toNat (d15.i)))))))]))])) * 32) ≤ 140737488355328) ∧ ((((-9223372036854775808 : Int) ≤ ((d15.i) + (1 : Int))) ∧ (((d15.i) + (1 : Int)) ≤ (9223372036854775807 : Int))) ∧ (∃ (d19 : PaM), (([(Filler.dl (d19.r)), (Filler.dl keysV), (Filler.val (Value.int IntKind.i64 (d19.n))), (Filler.val (Value.int IntKind.i64 (d19.i))), (Filler.me (d19.es))] = [(Filler.dl ((d15.r) ++ [(Value.agg (Array.mk [(Value.string (eS keysV (Int.toNat (d15.i)))), (Value.string (std.dstr (std.mget (Value.string (ByteArray.mk (Array.mk []))) (Value.string (ByteArray.mk (Array.mk []))) (d15.es) (Value.string (eS keysV (Int.toNat (d15.i)))))))]))])), (Filler.dl keysV), (Filler.val (Value.int IntKind.i64 (d15.n))), (Filler.val (Value.int IntKind.i64 ((d15.i) + (1 : Int)))), (Filler.me (d15.es))]) ∧ ((Nat.le (Nat.succ ((fun d : PaM => (d.n - d.i).toNat) d19)) ((fun d : PaM => (d.n - d.i).toNat) d15)) ∧ (pairJ xs d19))))))) ∧ (((std.mhas (Value.string (ByteArray.mk (Array.mk []))) (d15.es) (Value.string (eS keysV (Int.toNat (d15.i))))) = false) → ((((-9223372036854775808 : Int) ≤ ((d15.i) + (1 : Int))) ∧ (((d15.i) + (1 : Int)) ≤ (9223372036854775807 : Int))) ∧ (∃ (d19 : PaM), (([(Filler.dl (d19.r)), (Filler.dl keysV), (Filler.val (Value.int IntKind.i64 (d19.n))), (Filler.val (Value.int IntKind.i64 (d19.i))), (Filler.me (d19.es))] = [(Filler.dl (d15.r)), (Filler.dl keysV), (Filler.val (Value.int IntKind.i64 (d15.n))), (Filler.val (Value.int IntKind.i64 ((d15.i) + (1 : Int)))), (Filler.me (d15.es))]) ∧ ((Nat.le (Nat.succ ((fun d : PaM => (d.n - d.i).toNat) d19)) ((fun d : PaM => (d.n - d.i).toNat) d15)) ∧ (pairJ xs d19))))))))) ∧ (((decide ((d15.i) < (d15.n))) = false) → ([(dsl zP (d15.r))] = [(dsl zP (kvF.pairs xs))])))))))) := by
  refine ⟨⟨[], 12, 0, es⟩, rfl, ⟨rfl, he, 0, rfl, Nat.zero_le _, rfl⟩, fun d ⟨hn, hes, i, hi, hle, hr⟩ => ⟨fun h => ?_, fun h => ?_⟩⟩
  · have h := of_decide_eq_true h
    have hlt : i < 12 := by omega
    have hlen := outL_len d.es i
    have ho : outL d.es (i + 1) = if mhas zS d.es (.string (eS keysV i)) then outL d.es i ++ [prV (eS keysV i) (dstr (mget zS zS d.es (.string (eS keysV i))))] else outL d.es i := rfl
    rw [hi, Int.toNat_natCast]
    refine ⟨⟨by omega, by rw [keysV_len]; omega⟩, fun e => ⟨?_, by omega, ⟨d.r ++ [prV (eS keysV i) (dstr (mget zS zS d.es (.string (eS keysV i))))], d.n, (i : Int) + 1, d.es⟩, rfl, ?_, hn, hes, i + 1, rfl, hlt, ?_⟩, fun e => ⟨by omega, ⟨d.r, d.n, (i : Int) + 1, d.es⟩, rfl, ?_, hn, hes, i + 1, rfl, hlt, ?_⟩⟩
    · rw [hr, List.length_append]; show ((outL d.es i).length + 1) * 32 ≤ _; omega
    · show (d.n - ((i : Int) + 1)).toNat + 1 ≤ (d.n - d.i).toNat; omega
    · show d.r ++ _ = outL d.es (i + 1)
      rw [ho, if_pos (show mhas zS d.es (.string (eS keysV i)) = true from e), hr]
    · show (d.n - ((i : Int) + 1)).toNat + 1 ≤ (d.n - d.i).toNat; omega
    · show d.r = outL d.es (i + 1)
      rw [ho, if_neg (by rw [show mhas zS d.es (.string (eS keysV i)) = false from e]; exact Bool.false_ne_true), hr]
  · have h := of_decide_eq_false h
    show [dsl zP d.r] = [dsl zP (pairsF xs)]
    rw [hr, hes, show i = 12 by omega]; rfl
theorem pairs_run (xs : List Value) (hx : IntsOk xs) : Holds (runP std (pairsCon std kvF) 60 (pairsLs xs keysV (pairI xs) (fun d => ((xs.length : Int) - d.i).toNat) (pairJ xs) fun d => (d.n - d.i).toNat) (pairsP std kvF) 18 Try.f18 (xs, ())) := by
  constructor
  rw [pairs_vc]
  refine ⟨⟨0, []⟩, rfl, ⟨0, rfl, Nat.zero_le _, Nat.zero_le _, rfl⟩, fun d ⟨i, hi, hle, h12, hes⟩ => ⟨fun h => ⟨fun h1 => ?_, fun h1 => ?_⟩, fun h => ?_⟩⟩
  · have h := of_decide_eq_true h
    have h1 := of_decide_eq_true h1
    have hlt : i < xs.length := by omega
    have hv := hx i hlt
    have hq := tdiv_small hv
    rw [hi, Int.toNat_natCast]
    refine ⟨by omega, hv, by omega, ⟨by omega, hv⟩, hq, by omega, ⟨(i : Int) + 1, esF xs (i + 1)⟩, ?_, ?_, i + 1, rfl, hlt, by omega, rfl⟩
    · rw [esF_next, ← hes]; rfl
    · show ((xs.length : Int) - ((i : Int) + 1)).toNat + 1 ≤ ((xs.length : Int) - (i : Int)).toNat; omega
  · have h := of_decide_eq_true h
    have h1 := of_decide_eq_false h1
    exact pairs2 xs (by rw [hes]; congr 1; omega)
  · have h := of_decide_eq_false h
    exact pairs2 xs (by rw [hes]; congr 1; omega)
theorem pairsCon_ok : ConOk Try.prog (pairsCon std kvF) := draw_ok (noCon_ok _) fun x hx => by
  simp only [List.mem_cons, List.not_mem_nil, or_false] at hx
  rcases hx with rfl | rfl
  · exact dcon_ok rfl key_ok
  · exact dcon_ok rfl txt_ok
theorem pairs_ok : PFOk Try.prog 18 (pairsP std kvF) :=
  pf_ok (LS := fun d => pairsLs d.1 keysV (pairI d.1) (fun e => ((d.1.length : Int) - e.i).toNat) (pairJ d.1) fun e => (e.n - e.i).toNat) Try.progOk pairsCon_ok (inCallF_ok 60) (pairsP std kvF) Try.func18 (show _ = some (bodyS Try.prog 18) by kernel_rfl) fun d hd => by
    obtain ⟨h⟩ := pairs_run d.1 hd
    exact h
/-- Values are among the texts. -/
theorem txt_small (n : Int) : lenB (txtF n) ≤ 8 := by
  have : ∀ k, k < 5 → lenB (eS txtsV k) ≤ 8 := by decide +kernel
  exact this _ (by omega)
def ValsOk (es : List (Value × Value)) : Prop := ∀ e ∈ es, ∃ s, e.2 = .string s ∧ lenB s ≤ 8
theorem mput_vals {kz k : Value} {s : ByteArray} (hs : lenB s ≤ 8) : ∀ {es : List (Value × Value)}, ValsOk es → ValsOk (mput kz es k (.string s))
  | [], _, e, he => by rw [List.mem_singleton.1 he]; exact ⟨s, rfl, hs⟩
  | e0 :: es, h, e, he => by
    unfold mput at he
    split at he
    · rcases List.mem_cons.1 he with rfl | he
      · exact ⟨s, rfl, hs⟩
      · exact h e (List.mem_cons_of_mem _ he)
    · rcases List.mem_cons.1 he with rfl | he
      · exact h _ (List.mem_cons_self ..)
      · exact mput_vals hs (fun e he => h e (List.mem_cons_of_mem _ he)) e he
theorem es_vals (xs : List Value) : ∀ n, ValsOk (esF xs n)
  | 0, e, he => by cases he
  | n + 1, e, he => mput_vals (txt_small _) (es_vals xs n) e he
theorem mget_small {kz k : Value} : ∀ {es : List (Value × Value)}, ValsOk es → lenB (dstr (mget kz zS es k)) ≤ 8
  | [], _ => by show 0 ≤ 8; omega
  | e0 :: es, h => by
    by_cases c : keyB kz e0.1 k = true
    · obtain ⟨s, h1, h2⟩ := h e0 (List.mem_cons_self ..)
      have : mget kz zS (e0 :: es) k = e0.2 := by unfold mget mfind; rw [if_pos c]; rfl
      rw [this, h1]; exact h2
    · have : mget kz zS (e0 :: es) k = mget kz zS es k := by unfold mget; rw [show mfind kz (e0 :: es) k = mfind kz es k by rw [mfind, if_neg c]]
      rw [this]
      exact mget_small fun e he => h e (List.mem_cons_of_mem _ he)
theorem out_mem {es : List (Value × Value)} (h : ValsOk es) : ∀ {i : Nat} {x : Value}, x ∈ outL es i → ∃ j s, j < i ∧ x = prV (eS keysV j) s ∧ lenB s ≤ 8
  | 0, x, hx => by cases hx
  | i + 1, x, hx => by
    unfold outL at hx
    split at hx
    · rcases List.mem_append.1 hx with hx | hx
      · obtain ⟨j, s, h1, h2⟩ := out_mem h hx
        exact ⟨j, s, by omega, h2⟩
      · exact ⟨i, _, by omega, List.mem_singleton.1 hx, mget_small h⟩
    · obtain ⟨j, s, h1, h2⟩ := out_mem h hx
      exact ⟨j, s, by omega, h2⟩
theorem keys_rise : ∀ j, j < 12 → ∀ i, i < j → ltB (eS keysV i) (eS keysV j) = true := by decide +kernel
theorem keys_small : ∀ j, j < 12 → eqB (eS keysV j) noB = false ∧ lenB (eS keysV j) ≤ 16 := by decide +kernel
theorem out_ord {es : List (Value × Value)} (h : ValsOk es) : ∀ {i : Nat}, i ≤ 12 → Ord (outL es i)
  | 0, _ => List.Pairwise.nil
  | i + 1, hi => by
    have ih := out_ord h (i := i) (by omega)
    unfold outL
    split
    · refine List.pairwise_append.2 ⟨ih, List.pairwise_singleton _ _, fun a ha b hb => ?_⟩
      obtain ⟨j, s, h1, rfl, h3⟩ := out_mem h ha
      rw [List.mem_singleton.1 hb]
      exact keys_rise i (by omega) j h1
    · exact ih
theorem pairs_right (xs : List Value) : RightL (pairsF xs) := by
  have hv := es_vals xs (min xs.length 12)
  have hm := fun {x} => out_mem hv (i := 12) (x := x)
  refine ⟨(right_iff _).2 ⟨fun x hx => ?_, out_ord hv (Nat.le_refl _), ?_⟩, fun x hx => ?_⟩
  · obtain ⟨j, s, h1, rfl, h3⟩ := hm hx
    have := keys_small j h1
    show mayF (eS keysV j) s = true
    unfold mayF
    rw [this.1, decide_eq_true (by omega), decide_eq_true (by omega)]; rfl
  · have := outL_len (esF xs (min xs.length 12)) 12
    show (outL _ 12).length ≤ 30
    omega
  · obtain ⟨j, s, h1, rfl, h3⟩ := hm hx
    rfl
end Go.Proofs.Ytmhfnbbamoadgaa
end
section
namespace Go.Proofs.Ytmhfnbbamoadgaa
open Go.RowKit Go.Abs Go
theorem bs_idx {l : List Value} (ho : Ord l) (k : ByteArray) : ∃ r : Nat, bsF l k = r ∧ r ≤ l.length ∧ (∀ i, i < r → ltB (kP l i) k = true) ∧ ∀ i, r ≤ i → i < l.length → ltB (kP l i) k = false := by
  have hr := bsF_range l k
  have hb := bs_rfirst k ho
  obtain ⟨h1, h2, h3, h4⟩ := firstN_ok (fun i => ltB (kP l i) k) l.length 0
  generalize hR : firstN (fun i => ltB (kP l i) k) l.length 0 = r at h1 h2 h3 h4
  have he : bsF l k = r := by rw [hb]; unfold rfirstF; rw [hR]
  refine ⟨r, he, by omega, fun i hi => h3 i (Nat.zero_le _) hi, fun i h5 h6 => ?_⟩
  cases hc : ltB (kP l i) k with
  | false => rfl
  | true =>
    have h7 := h4 (by omega)
    rcases Nat.lt_or_ge r i with h | h
    · rw [mono_of k ho r i h h6 hc] at h7; cases h7
    · rw [show i = r by omega] at hc; rw [hc] at h7; cases h7
theorem filter_idx {l : List Value} {p : Value → Bool} {i0 i1 : Nat} (h0 : i0 ≤ i1) (h1 : i1 ≤ l.length) (hp : ∀ i (h : i < l.length), p l[i] = decide (i0 ≤ i ∧ i < i1)) : l.filter p = (l.drop i0).take (i1 - i0) := by
  have hs : l = l.take i0 ++ ((l.drop i0).take (i1 - i0) ++ l.drop i1) := by
    conv => lhs; rw [← List.take_append_drop i0 l]
    congr 1
    conv => lhs; rw [← List.take_append_drop (i1 - i0) (l.drop i0)]
    rw [List.drop_drop, show i0 + (i1 - i0) = i1 by omega]
  conv => lhs; rw [hs]
  rw [List.filter_append, List.filter_append]
  have e1 : (l.take i0).filter p = [] := List.filter_eq_nil_iff.2 fun x hx => by
    obtain ⟨i, hi, rfl⟩ := List.getElem_of_mem hx
    rw [List.length_take] at hi
    rw [List.getElem_take, hp i (by omega), decide_eq_false (by omega)]; exact Bool.false_ne_true
  have e2 : ((l.drop i0).take (i1 - i0)).filter p = (l.drop i0).take (i1 - i0) := List.filter_eq_self.2 fun x hx => by
    obtain ⟨i, hi, rfl⟩ := List.getElem_of_mem hx
    rw [List.length_take, List.length_drop] at hi
    rw [List.getElem_take, List.getElem_drop, hp _ (by omega)]
    exact decide_eq_true (by omega)
  have e3 : (l.drop i1).filter p = [] := List.filter_eq_nil_iff.2 fun x hx => by
    obtain ⟨i, hi, rfl⟩ := List.getElem_of_mem hx
    rw [List.length_drop] at hi
    rw [List.getElem_drop, hp _ (by omega), decide_eq_false (by omega)]; exact Bool.false_ne_true
  rw [e1, e2, e3]; simp
def inRange (a b : ByteArray) (x : Value) : Bool := !ltB (keyV x) a && ltB (keyV x) b
theorem rng_filter {l : List Value} (ho : Ord l) (a b : ByteArray) : rngF l a b = l.filter (inRange a b) := by
  obtain ⟨ia, ha, hla, a1, a2⟩ := bs_idx ho a
  obtain ⟨ib, hb, hlb, b1, b2⟩ := bs_idx ho b
  unfold rngF
  rw [ha, hb, filter_idx (i0 := ia) (i1 := max ia ib) (by omega) (by omega) fun i hi => ?_]
  · rw [Int.toNat_natCast, show (max (ia : Int) (ib : Int)).toNat = max ia ib by omega]
  · unfold inRange
    rw [← kP_get hi]
    by_cases h1 : i < ia
    · rw [a1 i h1, decide_eq_false (by omega)]; rfl
    · rw [a2 i (by omega) hi]
      by_cases h2 : i < ib
      · rw [b1 i h2, decide_eq_true (by omega)]; rfl
      · rw [b2 i (by omega) hi, decide_eq_false (by omega)]; rfl
theorem bs_mono {l : List Value} (ho : Ord l) {a b : ByteArray} (h : (ltB a b || eqB a b) = true) : bsF l a ≤ bsF l b := by
  obtain ⟨ia, ha, hla, a1, a2⟩ := bs_idx ho a
  obtain ⟨ib, hb, hlb, b1, b2⟩ := bs_idx ho b
  rw [ha, hb]
  rcases Nat.lt_or_ge ib ia with hlt | hge
  · exfalso
    have h1 := a1 ib hlt
    have h2 := b2 ib (Nat.le_refl _) (by omega)
    rw [Bool.or_eq_true] at h
    rcases h with h | h
    · rw [lt_trans h1 h] at h2; cases h2
    · rw [← eqB_iff.1 h, h1] at h2; cases h2
  · omega
theorem rng_join {l : List Value} (ho : Ord l) {a b c : ByteArray} (h1 : (ltB a b || eqB a b) = true) (h2 : (ltB b c || eqB b c) = true) : rngF l a b ++ rngF l b c = rngF l a c := by
  have m1 := bs_mono ho h1
  have m2 := bs_mono ho h2
  have r1 := bsF_range l a
  unfold rngF
  rw [show max (bsF l a) (bsF l b) = bsF l b by omega, show max (bsF l b) (bsF l c) = bsF l c by omega, show max (bsF l a) (bsF l c) = bsF l c by omega]
  have e : l.drop (bsF l b).toNat = (l.drop (bsF l a).toNat).drop ((bsF l b).toNat - (bsF l a).toNat) := by
    rw [List.drop_drop]; congr 1; omega
  rw [e, ← List.take_add]
  congr 1; omega
theorem rng_len {l : List Value} (hl : l.length ≤ 1000000) (a b : ByteArray) : (rngF l a b).length ≤ l.length := by
  unfold rngF
  rw [List.length_take, List.length_drop]; omega
/-- The next of a range. -/
theorem filter_next {l : List Value} {p : Value → Bool} {i : Nat} (hi : i < l.length) (hp : p l[i] = true) : ((l.take i).filter p).length < (l.filter p).length ∧ kP (l.filter p) ((l.take i).filter p).length = kP l i ∧ vP (l.filter p) ((l.take i).filter p).length = vP l i ∧ ((l.take (i + 1)).filter p).length = ((l.take i).filter p).length + 1 := by
  have hs : l.filter p = (l.take i).filter p ++ (l[i] :: (l.drop (i + 1)).filter p) := by
    conv => lhs; rw [← List.take_append_drop i l, List.drop_eq_getElem_cons hi]
    rw [List.filter_append, List.filter_cons, if_pos hp]
  have hlt : ((l.take i).filter p).length < (l.filter p).length := by rw [hs]; simp
  have hg : (l.filter p)[((l.take i).filter p).length]'hlt = l[i] := by
    have : (l.filter p)[((l.take i).filter p).length]? = some l[i] := by rw [hs, List.getElem?_append_right (Nat.le_refl _)]; simp
    rw [List.getElem?_eq_getElem hlt] at this
    exact Option.some.inj this
  refine ⟨hlt, by rw [kP_get hlt, kP_get hi, hg], by rw [vP_get hlt, vP_get hi, hg], ?_⟩
  rw [List.take_add_one, List.getElem?_eq_getElem hi, Option.toList_some, List.filter_append, List.length_append]
  simp [List.filter, hp]
theorem filter_skip {l : List Value} {p : Value → Bool} {i : Nat} (hi : i < l.length) (hp : p l[i] = false) : ((l.take (i + 1)).filter p).length = ((l.take i).filter p).length := by
  rw [List.take_add_one, List.getElem?_eq_getElem hi, Option.toList_some, List.filter_append, List.length_append]
  simp [List.filter, hp]
end Go.Proofs.Ytmhfnbbamoadgaa
end
section
namespace Go.Proofs.Ytmhfnbbamoadgaa
open Go.Abs Go
set_option maxRecDepth 100000 in
theorem within_vc (g : KvF) (n lo hi : Int) : runP std noCon 40 noL (withinP std g) 15 Try.f15 (n, lo, hi, ()) =
  ((((-9223372036854775808 : Int) ≤ (hi - lo)) ∧ ((hi - lo) ≤ (9223372036854775807 : Int))) ∧ ((((-9223372036854775808 : Int) ≤ ((hi - lo) + (1 : Int))) ∧ (((hi - lo) + (1 : Int)) ≤ (9223372036854775807 : Int))) ∧ (((0 : Int) < ((hi - lo) + (1 : Int))) ∧ ((((decide ((std.rem n ((hi - lo) + (1 : Int))) < (0 : Int))) = true) → ((((-9223372036854775808 : Int) ≤ ((std.rem n ((hi - lo) + (1 : Int))) + hi)) ∧ (((std.rem n ((hi - lo) + (1 : Int))) + hi) ≤ (9223372036854775807 : Int))) ∧ ((((-9223372036854775808 : Int) ≤ (((std.rem n ((hi - lo) + (1 : Int))) + hi) - lo)) ∧ ((((std.rem n ((hi - lo) + (1 : Int))) + hi) - lo) ≤ (9223372036854775807 : Int))) ∧ ((((-9223372036854775808 : Int) ≤ ((((std.rem n ((hi - lo) + (1 : Int))) + hi) - lo) + (1 : Int))) ∧ (((((std.rem n ((hi - lo) + (1 : Int))) + hi) - lo) + (1 : Int)) ≤ (9223372036854775807 : Int))) ∧ ((((-9223372036854775808 : Int) ≤ (lo + ((((std.rem n ((hi - lo) + (1 : Int))) + hi) - lo) + (1 : Int)))) ∧ ((lo + ((((std.rem n ((hi - lo) + (1 : Int))) + hi) - lo) + (1 : Int))) ≤ (9223372036854775807 : Int))) ∧ ([(Value.int IntKind.i64 (lo + ((((std.rem n ((hi - lo) + (1 : Int))) + hi) - lo) + (1 : Int))))] = [(Value.int IntKind.i64 (g.wi n lo hi))])))))) ∧ (((decide ((std.rem n ((hi - lo) + (1 : Int))) < (0 : Int))) = false) → ((((-9223372036854775808 : Int) ≤ (lo + (std.rem n ((hi - lo) + (1 : Int))))) ∧ ((lo + (std.rem n ((hi - lo) + (1 : Int)))) ≤ (9223372036854775807 : Int))) ∧ ([(Value.int IntKind.i64 (lo + (std.rem n ((hi - lo) + (1 : Int)))))] = [(Value.int IntKind.i64 (g.wi n lo hi))]))))))) := by kernel_rfl
def order_vc_L1 (g : KvF) (xs : List Value) (n : Int) (G : OrC → Prop) (w : OrC → Nat) (d17 : OrB) : Prop :=
  (∃ (d21 : OrC), (([(Filler.val (Value.int IntKind.i64 n)), (Filler.dl (g.pairs xs)), (Filler.dl (d21.x)), (Filler.dl (d21.y)), (Filler.dl (d21.f)), (Filler.val (Value.int IntKind.i64 (d21.i)))] = [(Filler.val (Value.int IntKind.i64 n)), (Filler.dl (g.pairs xs)), (Filler.dl (d17.x)), (Filler.dl (g.set (d17.x) (ByteArray.mk (Array.mk [(109 : UInt8)])) (ByteArray.mk (Array.mk [])))), (Filler.dl []), (Filler.val (Value.int IntKind.i64 (0 : Int)))]) ∧ ((G d21) ∧ (∀ (d22 : OrC), ((G d22) → ((((decide ((d22.i) < (32 : Int))) = true) → ((((0 : Int) < (26 : Int)) ∧ (((-9223372036854775808 : Int) ≤ (d22.i)) ∧ ((d22.i) ≤ (9223372036854775807 : Int)))) ∧ ((((-9223372036854775808 : Int) ≤ ((97 : Int) + (std.quo (d22.i) (26 : Int)))) ∧ (((97 : Int) + (std.quo (d22.i) (26 : Int))) ≤ (9223372036854775807 : Int))) ∧ (((0 : Int) < (26 : Int)) ∧ ((((-9223372036854775808 : Int) ≤ ((97 : Int) + (std.rem (d22.i) (26 : Int)))) ∧ (((97 : Int) + (std.rem (d22.i) (26 : Int))) ≤ (9223372036854775807 : Int))) ∧ ((((std.slen (ByteArray.mk (Array.mk [(107 : UInt8)]))) + (std.slen (std.sof (std.ints [(Value.int IntKind.u8 (std.wrap IntKind.u8 ((97 : Int) + (std.quo (d22.i) (26 : Int))))), (Value.int IntKind.u8 (std.wrap IntKind.u8 ((97 : Int) + (std.rem (d22.i) (26 : Int)))))])))) ≤ 9223372036854775807) ∧ (((List.length (d22.f)) ≤ 1000000) ∧ ((((g.setok (d22.f) ((ByteArray.mk (Array.mk [(107 : UInt8)])) ++ (std.sof (std.ints [(Value.int IntKind.u8 (std.wrap IntKind.u8 ((97 : Int) + (std.quo (d22.i) (26 : Int))))), (Value.int IntKind.u8 (std.wrap IntKind.u8 ((97 : Int) + (std.rem (d22.i) (26 : Int)))))]))) (ByteArray.mk (Array.mk []))) = true) → ((((decide ((d22.i) < (30 : Int))) = true) → ((((-9223372036854775808 : Int) ≤ ((d22.i) + (1 : Int))) ∧ (((d22.i) + (1 : Int)) ≤ (9223372036854775807 : Int))) ∧ (∃ (d27 : OrC), (([(Filler.val (Value.int IntKind.i64 n)), (Filler.dl (g.pairs xs)), (Filler.dl (d27.x)), (Filler.dl (d27.y)), (Filler.dl (d27.f)), (Filler.val (Value.int IntKind.i64 (d27.i)))] = [(Filler.val (Value.int IntKind.i64 n)), (Filler.dl (g.pairs xs)), (Filler.dl (d22.x)), (Filler.dl (d22.y)), (Filler.dl (g.set (d22.f) ((ByteArray.mk (Array.mk [(107 : UInt8)])) ++ (std.sof (std.ints [(Value.int IntKind.u8 (std.wrap IntKind.u8 ((97 : Int) + (std.quo (d22.i) (26 : Int))))), (Value.int IntKind.u8 (std.wrap IntKind.u8 ((97 : Int) + (std.rem (d22.i) (26 : Int)))))]))) (ByteArray.mk (Array.mk [])))), (Filler.val (Value.int IntKind.i64 ((d22.i) + (1 : Int))))]) ∧ ((Nat.le (Nat.succ (w d27)) (w d22)) ∧ (G d27)))))) ∧ (((decide ((d22.i) < (30 : Int))) = false) → ([(Value.bool false)] = [(Value.bool true)])))) ∧ (((g.setok (d22.f) ((ByteArray.mk (Array.mk [(107 : UInt8)])) ++ (std.sof (std.ints [(Value.int IntKind.u8 (std.wrap IntKind.u8 ((97 : Int) + (std.quo (d22.i) (26 : Int))))), (Value.int IntKind.u8 (std.wrap IntKind.u8 ((97 : Int) + (std.rem (d22.i) (26 : Int)))))]))) (ByteArray.mk (Array.mk []))) = false) → ((((decide ((d22.i) < (30 : Int))) = true) → ([(Value.bool false)] = [(Value.bool true)])) ∧ (((decide ((d22.i) < (30 : Int))) = false) → ((((-9223372036854775808 : Int) ≤ ((d22.i) + (1 : Int))) ∧ (((d22.i) + (1 : Int)) ≤ (9223372036854775807 : Int))) ∧ (∃ (d27 : OrC), (([(Filler.val (Value.int IntKind.i64 n)), (Filler.dl (g.pairs xs)), (Filler.dl (d27.x)), (Filler.dl (d27.y)), (Filler.dl (d27.f)), (Filler.val (Value.int IntKind.i64 (d27.i)))] = [(Filler.val (Value.int IntKind.i64 n)), (Filler.dl (g.pairs xs)), (Filler.dl (d22.x)), (Filler.dl (d22.y)), (Filler.dl (g.set (d22.f) ((ByteArray.mk (Array.mk [(107 : UInt8)])) ++ (std.sof (std.ints [(Value.int IntKind.u8 (std.wrap IntKind.u8 ((97 : Int) + (std.quo (d22.i) (26 : Int))))), (Value.int IntKind.u8 (std.wrap IntKind.u8 ((97 : Int) + (std.rem (d22.i) (26 : Int)))))]))) (ByteArray.mk (Array.mk [])))), (Filler.val (Value.int IntKind.i64 ((d22.i) + (1 : Int))))]) ∧ ((Nat.le (Nat.succ (w d27)) (w d22)) ∧ (G d27)))))))))))))))) ∧ (((decide ((d22.i) < (32 : Int))) = false) → ((((!(((List.length (d22.f)) : Int) == (30 : Int))) = true) → ([(Value.bool false)] = [(Value.bool true)])) ∧ (((!(((List.length (d22.f)) : Int) == (30 : Int))) = false) → ((((-9223372036854775808 : Int) ≤ (((List.length (d22.f)) : Int) - (1 : Int))) ∧ ((((List.length (d22.f)) : Int) - (1 : Int)) ≤ (9223372036854775807 : Int))) ∧ (((((-9223372036854775808 : Int) ≤ n) ∧ (n ≤ (9223372036854775807 : Int))) ∧ (((-1000000000000 : Int) ≤ (0 : Int)) ∧ (((0 : Int) ≤ (((List.length (d22.f)) : Int) - (1 : Int))) ∧ ((((List.length (d22.f)) : Int) - (1 : Int)) ≤ (2000000000000 : Int))))) ∧ ((((0 : Int) ≤ (g.wi n (0 : Int) (((List.length (d22.f)) : Int) - (1 : Int)))) ∧ ((g.wi n (0 : Int) (((List.length (d22.f)) : Int) - (1 : Int))) < ((List.length (d22.f)) : Int))) ∧ (((List.length (d22.f)) ≤ 1000000) ∧ ((((g.setok (d22.f) (kP (d22.f) (Int.toNat (g.wi n (0 : Int) (((List.length (d22.f)) : Int) - (1 : Int))))) (ByteArray.mk (Array.mk [(110 : UInt8), (101 : UInt8), (119 : UInt8)]))) = true) → (((List.length (d22.x)) ≤ 1000000) ∧ ((((g.same (d22.x) (g.pairs xs)) = true) → (((List.length (d22.y)) ≤ 1000000) ∧ (((List.length (g.del (d22.y) (ByteArray.mk (Array.mk [(109 : UInt8)])))) ≤ 1000000) ∧ ((((g.same (g.del (d22.y) (ByteArray.mk (Array.mk [(109 : UInt8)]))) (g.pairs xs)) = true) → (((((((List.length (g.set (d22.f) (kP (d22.f) (Int.toNat (g.wi n (0 : Int) (((List.length (d22.f)) : Int) - (1 : Int))))) (ByteArray.mk (Array.mk [(110 : UInt8), (101 : UInt8), (119 : UInt8)])))) : Nat) : Int) == ((List.length (d22.f)) : Int)) = true) → (((List.length (d22.f)) ≤ 1000000) ∧ ((((g.right (d22.f)) = true) → ([(Value.bool true)] = [(Value.bool true)])) ∧ (((g.right (d22.f)) = false) → ([(Value.bool false)] = [(Value.bool true)]))))) ∧ ((((((List.length (g.set (d22.f) (kP (d22.f) (Int.toNat (g.wi n (0 : Int) (((List.length (d22.f)) : Int) - (1 : Int))))) (ByteArray.mk (Array.mk [(110 : UInt8), (101 : UInt8), (119 : UInt8)])))) : Nat) : Int) == ((List.length (d22.f)) : Int)) = false) → ([(Value.bool false)] = [(Value.bool true)])))) ∧ (((g.same (g.del (d22.y) (ByteArray.mk (Array.mk [(109 : UInt8)]))) (g.pairs xs)) = false) → ([(Value.bool false)] = [(Value.bool true)])))))) ∧ (((g.same (d22.x) (g.pairs xs)) = false) → ([(Value.bool false)] = [(Value.bool true)]))))) ∧ (((g.setok (d22.f) (kP (d22.f) (Int.toNat (g.wi n (0 : Int) (((List.length (d22.f)) : Int) - (1 : Int))))) (ByteArray.mk (Array.mk [(110 : UInt8), (101 : UInt8), (119 : UInt8)]))) = false) → (((List.length (d22.x)) ≤ 1000000) ∧ ((((g.same (d22.x) (g.pairs xs)) = true) → (((List.length (d22.y)) ≤ 1000000) ∧ (((List.length (g.del (d22.y) (ByteArray.mk (Array.mk [(109 : UInt8)])))) ≤ 1000000) ∧ ((((g.same (g.del (d22.y) (ByteArray.mk (Array.mk [(109 : UInt8)]))) (g.pairs xs)) = true) → ([(Value.bool false)] = [(Value.bool true)])) ∧ (((g.same (g.del (d22.y) (ByteArray.mk (Array.mk [(109 : UInt8)]))) (g.pairs xs)) = false) → ([(Value.bool false)] = [(Value.bool true)])))))) ∧ (((g.same (d22.x) (g.pairs xs)) = false) → ([(Value.bool false)] = [(Value.bool true)])))))))))))))))))))
def order_vc_L2 (g : KvF) (xs : List Value) (n : Int) (J : OrB → Prop) (q : OrB → Nat) (G : OrC → Prop) (w : OrC → Nat) (d13 : OrA) : Prop :=
  (∃ (d16 : OrB), (([(Filler.val (Value.int IntKind.i64 n)), (Filler.dl (g.pairs xs)), (Filler.dl (d16.x)), (Filler.dl (d16.tu)), (Filler.val (Value.int IntKind.i64 (d16.n))), (Filler.val (Value.int IntKind.i64 (d16.i)))] = [(Filler.val (Value.int IntKind.i64 n)), (Filler.dl (g.pairs xs)), (Filler.dl []), (Filler.dl (d13.tu)), (Filler.val (Value.int IntKind.i64 ((List.length (d13.tu)) : Int))), (Filler.val (Value.int IntKind.i64 (0 : Int)))]) ∧ ((J d16) ∧ (∀ (d17 : OrB), ((J d17) → ((((decide ((d17.i) < (d17.n))) = true) → ((((0 : Int) ≤ (d17.i)) ∧ ((d17.i) < ((List.length (d17.tu)) : Int))) ∧ (((List.length (d17.x)) ≤ 1000000) ∧ ((((g.setok (d17.x) (kP (d17.tu) (Int.toNat (d17.i))) (ByteArray.mk (Array.mk [(110 : UInt8), (111 : UInt8)]))) = true) → (((List.length (g.set (d17.x) (kP (d17.tu) (Int.toNat (d17.i))) (ByteArray.mk (Array.mk [(110 : UInt8), (111 : UInt8)])))) ≤ 1000000) ∧ ((((g.setok (g.set (d17.x) (kP (d17.tu) (Int.toNat (d17.i))) (ByteArray.mk (Array.mk [(110 : UInt8), (111 : UInt8)]))) (kP (d17.tu) (Int.toNat (d17.i))) (vP (d17.tu) (Int.toNat (d17.i)))) = true) → ((((-9223372036854775808 : Int) ≤ ((d17.i) + (1 : Int))) ∧ (((d17.i) + (1 : Int)) ≤ (9223372036854775807 : Int))) ∧ (∃ (d22 : OrB), (([(Filler.val (Value.int IntKind.i64 n)), (Filler.dl (g.pairs xs)), (Filler.dl (d22.x)), (Filler.dl (d22.tu)), (Filler.val (Value.int IntKind.i64 (d22.n))), (Filler.val (Value.int IntKind.i64 (d22.i)))] = [(Filler.val (Value.int IntKind.i64 n)), (Filler.dl (g.pairs xs)), (Filler.dl (g.set (g.set (d17.x) (kP (d17.tu) (Int.toNat (d17.i))) (ByteArray.mk (Array.mk [(110 : UInt8), (111 : UInt8)]))) (kP (d17.tu) (Int.toNat (d17.i))) (vP (d17.tu) (Int.toNat (d17.i))))), (Filler.dl (d17.tu)), (Filler.val (Value.int IntKind.i64 (d17.n))), (Filler.val (Value.int IntKind.i64 ((d17.i) + (1 : Int))))]) ∧ ((Nat.le (Nat.succ (q d22)) (q d17)) ∧ (J d22)))))) ∧ (((g.setok (g.set (d17.x) (kP (d17.tu) (Int.toNat (d17.i))) (ByteArray.mk (Array.mk [(110 : UInt8), (111 : UInt8)]))) (kP (d17.tu) (Int.toNat (d17.i))) (vP (d17.tu) (Int.toNat (d17.i)))) = false) → ((((-9223372036854775808 : Int) ≤ ((d17.i) + (1 : Int))) ∧ (((d17.i) + (1 : Int)) ≤ (9223372036854775807 : Int))) ∧ (∃ (d22 : OrB), (([(Filler.val (Value.int IntKind.i64 n)), (Filler.dl (g.pairs xs)), (Filler.dl (d22.x)), (Filler.dl (d22.tu)), (Filler.val (Value.int IntKind.i64 (d22.n))), (Filler.val (Value.int IntKind.i64 (d22.i)))] = [(Filler.val (Value.int IntKind.i64 n)), (Filler.dl (g.pairs xs)), (Filler.dl (g.set (g.set (d17.x) (kP (d17.tu) (Int.toNat (d17.i))) (ByteArray.mk (Array.mk [(110 : UInt8), (111 : UInt8)]))) (kP (d17.tu) (Int.toNat (d17.i))) (vP (d17.tu) (Int.toNat (d17.i))))), (Filler.dl (d17.tu)), (Filler.val (Value.int IntKind.i64 (d17.n))), (Filler.val (Value.int IntKind.i64 ((d17.i) + (1 : Int))))]) ∧ ((Nat.le (Nat.succ (q d22)) (q d17)) ∧ (J d22))))))))) ∧ (((g.setok (d17.x) (kP (d17.tu) (Int.toNat (d17.i))) (ByteArray.mk (Array.mk [(110 : UInt8), (111 : UInt8)]))) = false) → (((List.length (g.set (d17.x) (kP (d17.tu) (Int.toNat (d17.i))) (ByteArray.mk (Array.mk [(110 : UInt8), (111 : UInt8)])))) ≤ 1000000) ∧ ((((g.setok (g.set (d17.x) (kP (d17.tu) (Int.toNat (d17.i))) (ByteArray.mk (Array.mk [(110 : UInt8), (111 : UInt8)]))) (kP (d17.tu) (Int.toNat (d17.i))) (vP (d17.tu) (Int.toNat (d17.i)))) = true) → ((((-9223372036854775808 : Int) ≤ ((d17.i) + (1 : Int))) ∧ (((d17.i) + (1 : Int)) ≤ (9223372036854775807 : Int))) ∧ (∃ (d22 : OrB), (([(Filler.val (Value.int IntKind.i64 n)), (Filler.dl (g.pairs xs)), (Filler.dl (d22.x)), (Filler.dl (d22.tu)), (Filler.val (Value.int IntKind.i64 (d22.n))), (Filler.val (Value.int IntKind.i64 (d22.i)))] = [(Filler.val (Value.int IntKind.i64 n)), (Filler.dl (g.pairs xs)), (Filler.dl (g.set (g.set (d17.x) (kP (d17.tu) (Int.toNat (d17.i))) (ByteArray.mk (Array.mk [(110 : UInt8), (111 : UInt8)]))) (kP (d17.tu) (Int.toNat (d17.i))) (vP (d17.tu) (Int.toNat (d17.i))))), (Filler.dl (d17.tu)), (Filler.val (Value.int IntKind.i64 (d17.n))), (Filler.val (Value.int IntKind.i64 ((d17.i) + (1 : Int))))]) ∧ ((Nat.le (Nat.succ (q d22)) (q d17)) ∧ (J d22)))))) ∧ (((g.setok (g.set (d17.x) (kP (d17.tu) (Int.toNat (d17.i))) (ByteArray.mk (Array.mk [(110 : UInt8), (111 : UInt8)]))) (kP (d17.tu) (Int.toNat (d17.i))) (vP (d17.tu) (Int.toNat (d17.i)))) = false) → ((((-9223372036854775808 : Int) ≤ ((d17.i) + (1 : Int))) ∧ (((d17.i) + (1 : Int)) ≤ (9223372036854775807 : Int))) ∧ (∃ (d22 : OrB), (([(Filler.val (Value.int IntKind.i64 n)), (Filler.dl (g.pairs xs)), (Filler.dl (d22.x)), (Filler.dl (d22.tu)), (Filler.val (Value.int IntKind.i64 (d22.n))), (Filler.val (Value.int IntKind.i64 (d22.i)))] = [(Filler.val (Value.int IntKind.i64 n)), (Filler.dl (g.pairs xs)), (Filler.dl (g.set (g.set (d17.x) (kP (d17.tu) (Int.toNat (d17.i))) (ByteArray.mk (Array.mk [(110 : UInt8), (111 : UInt8)]))) (kP (d17.tu) (Int.toNat (d17.i))) (vP (d17.tu) (Int.toNat (d17.i))))), (Filler.dl (d17.tu)), (Filler.val (Value.int IntKind.i64 (d17.n))), (Filler.val (Value.int IntKind.i64 ((d17.i) + (1 : Int))))]) ∧ ((Nat.le (Nat.succ (q d22)) (q d17)) ∧ (J d22))))))))))))) ∧ (((decide ((d17.i) < (d17.n))) = false) → (((List.length (d17.x)) ≤ 1000000) ∧ ((((g.setok (d17.x) (ByteArray.mk (Array.mk [(109 : UInt8)])) (ByteArray.mk (Array.mk []))) = true) → (order_vc_L1 g xs n G w d17)) ∧ (((g.setok (d17.x) (ByteArray.mk (Array.mk [(109 : UInt8)])) (ByteArray.mk (Array.mk []))) = false) → (order_vc_L1 g xs n G w d17)))))))))))
def order_vc_L3 (g : KvF) (xs : List Value) (os : List Value) (n : Int) (I : OrA → Prop) (m : OrA → Nat) (J : OrB → Prop) (q : OrB → Nat) (G : OrC → Prop) (w : OrC → Nat) : Prop :=
  (∃ (d12 : OrA), (([(Filler.dl os), (Filler.val (Value.int IntKind.i64 n)), (Filler.dl (g.pairs xs)), (Filler.dl (d12.tu)), (Filler.val (Value.int IntKind.i64 (d12.i)))] = [(Filler.dl os), (Filler.val (Value.int IntKind.i64 n)), (Filler.dl (g.pairs xs)), (Filler.dl (g.pairs xs)), (Filler.val (Value.int IntKind.i64 (0 : Int)))]) ∧ ((I d12) ∧ (∀ (d13 : OrA), ((I d13) → ((((decide ((d13.i) < ((List.length os) : Int))) = true) → ((((decide ((1 : Int) < ((List.length (d13.tu)) : Int))) = true) → ((((0 : Int) ≤ (d13.i)) ∧ ((d13.i) < ((List.length os) : Int))) ∧ ((((-9223372036854775808 : Int) ≤ (((List.length (d13.tu)) : Int) - (1 : Int))) ∧ ((((List.length (d13.tu)) : Int) - (1 : Int)) ≤ (9223372036854775807 : Int))) ∧ (((((-9223372036854775808 : Int) ≤ (eI os (Int.toNat (d13.i)))) ∧ ((eI os (Int.toNat (d13.i))) ≤ (9223372036854775807 : Int))) ∧ (((-1000000000000 : Int) ≤ (0 : Int)) ∧ (((0 : Int) ≤ (((List.length (d13.tu)) : Int) - (1 : Int))) ∧ ((((List.length (d13.tu)) : Int) - (1 : Int)) ≤ (2000000000000 : Int))))) ∧ ((((0 : Int) ≤ (g.wi (eI os (Int.toNat (d13.i))) (0 : Int) (((List.length (d13.tu)) : Int) - (1 : Int)))) ∧ ((g.wi (eI os (Int.toNat (d13.i))) (0 : Int) (((List.length (d13.tu)) : Int) - (1 : Int))) < ((List.length (d13.tu)) : Int))) ∧ ((((List.length [(Value.agg (Array.mk [(Value.string (kP (d13.tu) (Int.toNat (g.wi (eI os (Int.toNat (d13.i))) (0 : Int) (((List.length (d13.tu)) : Int) - (1 : Int)))))), (Value.string (vP (d13.tu) (Int.toNat (g.wi (eI os (Int.toNat (d13.i))) (0 : Int) (((List.length (d13.tu)) : Int) - (1 : Int))))))]))]) * 32) ≤ 140737488355328) ∧ (((((0 : Int) ≤ (g.wi (eI os (Int.toNat (d13.i))) (0 : Int) (((List.length (d13.tu)) : Int) - (1 : Int)))) ∧ ((g.wi (eI os (Int.toNat (d13.i))) (0 : Int) (((List.length (d13.tu)) : Int) - (1 : Int))) ≤ ((List.length (d13.tu)) : Int))) ∧ True) ∧ ((((List.length ([(Value.agg (Array.mk [(Value.string (kP (d13.tu) (Int.toNat (g.wi (eI os (Int.toNat (d13.i))) (0 : Int) (((List.length (d13.tu)) : Int) - (1 : Int)))))), (Value.string (vP (d13.tu) (Int.toNat (g.wi (eI os (Int.toNat (d13.i))) (0 : Int) (((List.length (d13.tu)) : Int) - (1 : Int))))))]))] ++ (List.take ((Int.toNat (g.wi (eI os (Int.toNat (d13.i))) (0 : Int) (((List.length (d13.tu)) : Int) - (1 : Int)))) - 0) (List.drop 0 (d13.tu))))) * 32) ≤ 140737488355328) ∧ ((((-9223372036854775808 : Int) ≤ ((g.wi (eI os (Int.toNat (d13.i))) (0 : Int) (((List.length (d13.tu)) : Int) - (1 : Int))) + (1 : Int))) ∧ (((g.wi (eI os (Int.toNat (d13.i))) (0 : Int) (((List.length (d13.tu)) : Int) - (1 : Int))) + (1 : Int)) ≤ (9223372036854775807 : Int))) ∧ ((True ∧ (((0 : Int) ≤ ((g.wi (eI os (Int.toNat (d13.i))) (0 : Int) (((List.length (d13.tu)) : Int) - (1 : Int))) + (1 : Int))) ∧ (((g.wi (eI os (Int.toNat (d13.i))) (0 : Int) (((List.length (d13.tu)) : Int) - (1 : Int))) + (1 : Int)) ≤ ((List.length (d13.tu)) : Int)))) ∧ ((((List.length (([(Value.agg (Array.mk [(Value.string (kP (d13.tu) (Int.toNat (g.wi (eI os (Int.toNat (d13.i))) (0 : Int) (((List.length (d13.tu)) : Int) - (1 : Int)))))), (Value.string (vP (d13.tu) (Int.toNat (g.wi (eI os (Int.toNat (d13.i))) (0 : Int) (((List.length (d13.tu)) : Int) - (1 : Int))))))]))] ++ (List.take ((Int.toNat (g.wi (eI os (Int.toNat (d13.i))) (0 : Int) (((List.length (d13.tu)) : Int) - (1 : Int)))) - 0) (List.drop 0 (d13.tu)))) ++ (List.take ((List.length (d13.tu)) - (Int.toNat ((g.wi (eI os (Int.toNat (d13.i))) (0 : Int) (((List.length (d13.tu)) : Int) - (1 : Int))) + (1 : Int)))) (List.drop (Int.toNat ((g.wi (eI os (Int.toNat (d13.i))) (0 : Int) (((List.length (d13.tu)) : Int) - (1 : Int))) + (1 : Int))) (d13.tu))))) * 32) ≤ 140737488355328) ∧ ((((-9223372036854775808 : Int) ≤ ((d13.i) + (1 : Int))) ∧ (((d13.i) + (1 : Int)) ≤ (9223372036854775807 : Int))) ∧ (∃ (d17 : OrA), (([(Filler.dl os), (Filler.val (Value.int IntKind.i64 n)), (Filler.dl (g.pairs xs)), (Filler.dl (d17.tu)), (Filler.val (Value.int IntKind.i64 (d17.i)))] = [(Filler.dl os), (Filler.val (Value.int IntKind.i64 n)), (Filler.dl (g.pairs xs)), (Filler.dl (([(Value.agg (Array.mk [(Value.string (kP (d13.tu) (Int.toNat (g.wi (eI os (Int.toNat (d13.i))) (0 : Int) (((List.length (d13.tu)) : Int) - (1 : Int)))))), (Value.string (vP (d13.tu) (Int.toNat (g.wi (eI os (Int.toNat (d13.i))) (0 : Int) (((List.length (d13.tu)) : Int) - (1 : Int))))))]))] ++ (List.take ((Int.toNat (g.wi (eI os (Int.toNat (d13.i))) (0 : Int) (((List.length (d13.tu)) : Int) - (1 : Int)))) - 0) (List.drop 0 (d13.tu)))) ++ (List.take ((List.length (d13.tu)) - (Int.toNat ((g.wi (eI os (Int.toNat (d13.i))) (0 : Int) (((List.length (d13.tu)) : Int) - (1 : Int))) + (1 : Int)))) (List.drop (Int.toNat ((g.wi (eI os (Int.toNat (d13.i))) (0 : Int) (((List.length (d13.tu)) : Int) - (1 : Int))) + (1 : Int))) (d13.tu))))), (Filler.val (Value.int IntKind.i64 ((d13.i) + (1 : Int))))]) ∧ ((Nat.le (Nat.succ (m d17)) (m d13)) ∧ (I d17)))))))))))))))) ∧ (((decide ((1 : Int) < ((List.length (d13.tu)) : Int))) = false) → (order_vc_L2 g xs n J q G w d13)))) ∧ (((decide ((d13.i) < ((List.length os) : Int))) = false) → (order_vc_L2 g xs n J q G w d13))))))))
end Go.Proofs.Ytmhfnbbamoadgaa
end
section
namespace Go.Proofs.Ytmhfnbbamoadgaa
open Go.RowKit Go.Abs Go
/-- Ordered rows of the same pairs are the same. -/
theorem ord_ext : ∀ {l m : List Value}, Ord l → Ord m → (∀ x, x ∈ l ↔ x ∈ m) → l = m
  | [], [], _, _, _ => rfl
  | [], b :: m, _, _, h => by have := (h b).2 (List.mem_cons_self ..); cases this
  | a :: l, [], _, _, h => by have := (h a).1 (List.mem_cons_self ..); cases this
  | a :: l, b :: m, h1, h2, h => by
    obtain ⟨a1, o1⟩ := List.pairwise_cons.1 h1
    obtain ⟨a2, o2⟩ := List.pairwise_cons.1 h2
    have e : a = b := by
      rcases List.mem_cons.1 ((h a).1 (List.mem_cons_self ..)) with e | ha
      · exact e
      · rcases List.mem_cons.1 ((h b).2 (List.mem_cons_self ..)) with e | hb
        · exact e.symm
        · have := lt_trans (a1 b hb) (a2 a ha)
          rw [lt_irrefl] at this; cases this
    subst e
    rw [ord_ext o1 o2 fun x => ⟨fun hx => ?_, fun hx => ?_⟩]
    · rcases List.mem_cons.1 ((h x).1 (List.mem_cons_of_mem _ hx)) with e | hm
      · subst e; have := a1 x hx; rw [lt_irrefl] at this; cases this
      · exact hm
    · rcases List.mem_cons.1 ((h x).2 (List.mem_cons_of_mem _ hx)) with e | hm
      · subst e; have := a2 x hx; rw [lt_irrefl] at this; cases this
      · exact hm
/-- What is in a row that was set. -/
theorem rset_mem {l : List Value} (ho : Ord l) (k v : ByteArray) : (∀ y, y ∈ rsetF l k v ↔ y = prV k v ∨ y ∈ l ∧ keyV y ≠ k) ∧
    (((∃ x ∈ l, keyV x = k) ∧ (rsetF l k v).length = l.length ∧ fdF l k = true) ∨ ((∀ x ∈ l, keyV x ≠ k) ∧ (rsetF l k v).length = l.length + 1 ∧ fdF l k = false)) := by
  obtain ⟨r, hr, hle, h1, h2, h3⟩ := split_at k ho
  rw [fd_eq k ho]
  unfold rsetF putF
  rw [hr, Int.toNat_natCast]
  rw [hr, Int.toNat_natCast] at h2 h3
  have ne1 : ∀ x ∈ l.take r, keyV x ≠ k := fun x hx e => by have := h1 x hx; rw [e, lt_irrefl] at this; cases this
  have hl : ∀ y, y ∈ l ↔ y ∈ l.take r ∨ y ∈ l.drop r := fun y => by
    have := List.take_append_drop r l
    rw [← List.mem_append, this]
  cases hc : (decide ((r : Int) < (l.length : Int)) && eqB (kP l r) k) with
  | true =>
    obtain ⟨hlt, h4, h5⟩ := h3 hc
    have ne2 : ∀ x ∈ l.drop (r + 1), keyV x ≠ k := fun x hx e => by have := h5 x hx; rw [e, lt_irrefl] at this; cases this
    have hd : l.drop r = l[r] :: l.drop (r + 1) := List.drop_eq_getElem_cons hlt
    rw [if_pos rfl]
    refine ⟨fun y => ?_, .inl ⟨⟨l[r], List.getElem_mem hlt, h4⟩, ?_, rfl⟩⟩
    · rw [hl y, hd]
      simp only [List.mem_append, List.mem_cons, List.not_mem_nil, or_false]
      constructor
      · rintro ((h | h) | h)
        · exact .inr ⟨.inl h, ne1 y h⟩
        · exact .inl h
        · exact .inr ⟨.inr (.inr h), ne2 y h⟩
      · rintro (h | ⟨h | h | h, hk⟩)
        · exact .inl (.inr h)
        · exact .inl (.inl h)
        · rw [h] at hk; exact absurd h4 hk
        · exact .inr h
    · simp only [List.length_append, List.length_take, List.length_drop, List.length_cons, List.length_nil]; omega
  | false =>
    have ne2 : ∀ x ∈ l.drop r, keyV x ≠ k := fun x hx e => by have := h2 hc x hx; rw [e, lt_irrefl] at this; cases this
    rw [if_neg Bool.false_ne_true]
    refine ⟨fun y => ?_, .inr ⟨fun x hx => ?_, ?_, rfl⟩⟩
    · rw [hl y]
      simp only [List.mem_append, List.mem_cons, List.not_mem_nil, or_false]
      constructor
      · rintro ((h | h) | h)
        · exact .inr ⟨.inl h, ne1 y h⟩
        · exact .inl h
        · exact .inr ⟨.inr h, ne2 y h⟩
      · rintro (h | ⟨h | h, hk⟩)
        · exact .inl (.inr h)
        · exact .inl (.inl h)
        · exact .inr h
    · rcases (hl x).1 hx with h | h
      · exact ne1 x h
      · exact ne2 x h
    · simp only [List.length_append, List.length_take, List.length_drop, List.length_cons, List.length_nil]; omega
theorem set_mem {l : List Value} (h : RightL l) {k v : ByteArray} (hm : mayF k v = true) (hroom : l.length < 30 ∨ ∃ x ∈ l, keyV x = k) : RightL (setF l k v) ∧ (∀ y, y ∈ setF l k v ↔ y = prV k v ∨ y ∈ l ∧ keyV y ≠ k) ∧
    (((∃ x ∈ l, keyV x = k) ∧ (setF l k v).length = l.length) ∨ ((∀ x ∈ l, keyV x ≠ k) ∧ (setF l k v).length = l.length + 1)) := by
  have ho := ((right_iff l).1 h.1).2.1
  obtain ⟨h1, h2⟩ := rset_mem ho k v
  have hok : setokF l k v = true := by
    unfold setokF
    rw [hm, Bool.true_and, Bool.or_eq_true]
    rcases hroom with hr | ⟨x, hx, he⟩
    · right; rw [decide_eq_true_eq]; omega
    · left
      rcases h2 with ⟨_, _, h3⟩ | ⟨h3, _⟩
      · exact h3
      · exact absurd he (h3 x hx)
  obtain ⟨e, hr⟩ := set_rset h hok
  rw [e]
  exact ⟨hr, h1, h2.imp (fun h => ⟨h.1, h.2.1⟩) fun h => ⟨h.1, h.2.1⟩⟩
def mB : ByteArray := ⟨#[109]⟩
def noW : ByteArray := ⟨#[110, 111]⟩
def newW : ByteArray := ⟨#[110, 101, 119]⟩
/-- The pairs of a step of KvOrder's second loop. -/
theorem two_sets {l : List Value} (h : RightL l) {k v : ByteArray} (hm : mayF k v = true) (hroom : l.length < 30) (hn : ∀ x ∈ l, keyV x ≠ k) :
    RightL (setF (setF l k noW) k v) ∧ (setF l k noW).length ≤ 30 ∧ (setF (setF l k noW) k v).length = l.length + 1 ∧ ∀ y, y ∈ setF (setF l k noW) k v ↔ y ∈ l ∨ y = prV k v := by
  have hm1 : mayF k noW = true := by
    unfold mayF at hm ⊢
    simp only [Bool.and_eq_true] at hm ⊢
    exact ⟨hm.1, hm.2.1, rfl⟩
  obtain ⟨r1, m1, l1⟩ := set_mem h hm1 (.inl hroom)
  have hlen1 : (setF l k noW).length = l.length + 1 := by
    rcases l1 with ⟨⟨x, hx, he⟩, _⟩ | ⟨_, h2⟩
    · exact absurd he (hn x hx)
    · exact h2
  have hin : prV k noW ∈ setF l k noW := (m1 _).2 (.inl rfl)
  obtain ⟨r2, m2, l2⟩ := set_mem r1 hm (.inr ⟨_, hin, rfl⟩)
  refine ⟨r2, by omega, ?_, fun y => ?_⟩
  · rcases l2 with ⟨_, h2⟩ | ⟨h2, _⟩
    · omega
    · exact absurd rfl (h2 _ hin)
  · rw [m2 y, m1 y]
    constructor
    · rintro (h | ⟨h | h, hk⟩)
      · exact .inr h
      · rw [h] at hk; exact absurd rfl hk
      · exact .inl h.1
    · rintro (h | h)
      · exact .inr ⟨.inr ⟨h, hn y h⟩, hn y h⟩
      · exact .inl h
/-- Set and taken out: as if it had never been. -/
theorem set_del {l : List Value} (h : RightL l) (hroom : l.length < 30) (hn : ∀ x ∈ l, keyV x ≠ mB) : (setF l mB noB).length ≤ 30 ∧ (dropF (setF l mB noB) mB).length ≤ 30 ∧ dropF (setF l mB noB) mB = l := by
  obtain ⟨r1, m1, _⟩ := set_mem (k := mB) (v := noB) h rfl (.inl hroom)
  have ho := ((right_iff _).1 r1.1).2
  have e : dropF (setF l mB noB) mB = l := by
    rw [drop_rdel mB r1.2 ho.1, rdel_eq mB r1.2]
    refine ord_ext (ho.1.filter _) ((right_iff l).1 h.1).2.1 fun x => ?_
    rw [List.mem_filter, m1 x]
    constructor
    · rintro ⟨h1 | h1, h2⟩
      · rw [h1] at h2; cases h2
      · exact h1.1
    · intro hx
      refine ⟨.inr ⟨hx, hn x hx⟩, ?_⟩
      cases c : eqB (keyV x) mB with
      | false => rfl
      | true => exact absurd (eqB_iff.1 c) (hn x hx)
  exact ⟨ho.2, by rw [e]; omega, e⟩
/-- Thirty keys, and no more. -/
def keyN (i : Int) : ByteArray := ⟨#[107]⟩ ++ std.sof (std.ints [.int .u8 (std.wrap .u8 (97 + std.quo i 26)), .int .u8 (std.wrap .u8 (97 + std.rem i 26))])
def fullL : Nat → List Value
  | 0 => []
  | i + 1 => setF (fullL i) (keyN i) noB
theorem full_ok : ∀ i, i < 32 → setokF (fullL i) (keyN i) noB = decide (i < 30) ∧ (fullL i).length ≤ 30 ∧ std.slen (std.sof (std.ints [Value.int .u8 (std.wrap .u8 (97 + std.quo i 26)), Value.int .u8 (std.wrap .u8 (97 + std.rem i 26))])) ≤ 100 := by decide +kernel
theorem full_len : (fullL 32).length = 30 ∧ rightF mayF (fullL 32) = true := by decide +kernel
theorem full_new : ∀ k, k < 30 → setokF (fullL 32) (kP (fullL 32) k) newW = true ∧ (setF (fullL 32) (kP (fullL 32) k) newW).length = 30 := by decide +kernel
theorem pairs_keys (xs : List Value) : (pairsF xs).length ≤ 12 ∧ ∀ x ∈ pairsF xs, keyV x ≠ mB := by
  refine ⟨outL_len _ 12, fun x hx => ?_⟩
  obtain ⟨j, s, h1, rfl, _⟩ := out_mem (es_vals xs _) hx
  have : ∀ j, j < 12 → eqB (eS keysV j) mB = false := by decide +kernel
  intro e
  have h2 := this j h1
  rw [show eS keysV j = mB from e, eqB_iff.2 rfl] at h2
  cases h2
/-- A row turned. -/
theorem turn_perm {l : List Value} (hw : Wf l) {k : Nat} (hk : k < l.length) : (([prV (kP l k) (vP l k)] ++ List.take (k - 0) (List.drop 0 l)) ++ List.take (l.length - (k + 1)) (List.drop (k + 1) l)).Perm l := by
  have e : prV (kP l k) (vP l k) = l[k] := by rw [kP_get hk, vP_get hk]; exact (hw _ (List.getElem_mem hk)).symm
  rw [e, Nat.sub_zero, List.drop_zero, take_rest]
  have h2 : l = l.take k ++ l[k] :: l.drop (k + 1) := by
    rw [← List.drop_eq_getElem_cons hk, List.take_append_drop]
  conv => rhs; rw [h2]
  exact (List.perm_middle (a := l[k]) (l₁ := l.take k) (l₂ := l.drop (k + 1))).symm
end Go.Proofs.Ytmhfnbbamoadgaa
end
section
namespace Go.Proofs.Ytmhfnbbamoadgaa
open Go.RowKit Go.Abs Go
set_option maxRecDepth 100000
theorem wi_run (n lo hi : Int) (_hn : -9223372036854775808 ≤ n ∧ n ≤ 9223372036854775807) (h1 : -1000000000000 ≤ lo) (h2 : lo ≤ hi) (h3 : hi ≤ 2000000000000) : runP std noCon 40 noL (withinP std kvF) 15 Try.f15 (n, lo, hi, ()) := by
  rw [within_vc]
  have hm : std.rem n ((hi - lo) + 1) = n.tmod (hi - lo + 1) := rfl
  rw [hm]
  have b1 := Int.emod_nonneg n (show hi - lo + 1 ≠ 0 by omega)
  have b2 := Int.emod_lt_of_pos n (show 0 < hi - lo + 1 by omega)
  have key : (0 ≤ n.tmod (hi - lo + 1) ∧ n.tmod (hi - lo + 1) = n % (hi - lo + 1)) ∨ (n.tmod (hi - lo + 1) < 0 ∧ n.tmod (hi - lo + 1) + (hi - lo + 1) = n % (hi - lo + 1)) := by
    have := Int.tmod_eq_emod (a := n) (b := hi - lo + 1)
    split at this <;> rename_i c
    · left; omega
    · by_cases z : n % (hi - lo + 1) = 0
      · exfalso
        exact c (.inr (Int.dvd_of_emod_eq_zero z))
      · right; omega
  generalize n.tmod (hi - lo + 1) = r at key ⊢
  have hw : kvF.wi n lo hi = lo + n % (hi - lo + 1) := rfl
  rw [hw]
  generalize n % (hi - lo + 1) = u at key b1 b2 ⊢
  refine ⟨by omega, by omega, by omega, fun h => ⟨by have := of_decide_eq_true h; omega, by have := of_decide_eq_true h; omega, by have := of_decide_eq_true h; omega, by have := of_decide_eq_true h; omega, ?_⟩, fun h => ⟨by have := of_decide_eq_false h; omega, ?_⟩⟩
  · have := of_decide_eq_true h
    rw [show lo + (r + hi - lo + 1) = lo + u by omega]
  · have := of_decide_eq_false h
    rw [show r = u by omega]
theorem wi_ok : PFOk Try.prog 15 (withinP std kvF) :=
  pf_ok (LS := fun _ => noL) Try.progOk (noCon_ok _) (inCallF_ok 60) (withinP std kvF) Try.func15 (show _ = some (bodyS Try.prog 15) by kernel_rfl) fun d hd => wi_run d.1 d.2.1 d.2.2.1 (inI_std hd.1) hd.2.1 hd.2.2.1 hd.2.2.2
theorem wi_in2 {n lo hi : Int} (h : lo ≤ hi) : lo ≤ kvF.wi n lo hi ∧ kvF.wi n lo hi ≤ hi := by
  have b1 := Int.emod_nonneg n (show hi - lo + 1 ≠ 0 by omega)
  have b2 := Int.emod_lt_of_pos n (show 0 < hi - lo + 1 by omega)
  show lo ≤ lo + n % (hi - lo + 1) ∧ lo + n % (hi - lo + 1) ≤ hi
  omega
def inR (n : Int) : Prop := -9223372036854775808 ≤ n ∧ n ≤ 9223372036854775807
theorem sl_ints {l : List Value} (hl : ∀ x ∈ l, RawOk zI x) : IntsOk l := fun i hi => by
  obtain ⟨m, e, hw⟩ := ints_ok hl i zI hi
  unfold eI
  rw [e]; exact i64_range hw
end Go.Proofs.Ytmhfnbbamoadgaa
end
section
namespace Go.Proofs.Ytmhfnbbamoadgaa
open Go.RowKit Go.Abs Go
set_option maxRecDepth 100000
set_option maxHeartbeats 1000000 in
theorem clone_none (n c : Nat) (w : World) : Calls Try.prog 34 #[.slice none n c] w fun e w' => e = .returned (.slice none 0 0) ∧ w' = w := by
  have q22 : ∀ (w : World) (a : Option Addr) (n c n' c' : Nat), (binOp .eql 29 (.slice a n c) (.slice none n' c')).run Try.prog w = .ok (.bool a.isNone) w := fun w a n c n' c' => Lib.run_eql_slice_nil w _ _ a n c n' c' Try.underlying29
  go_enter Try.func34, Try.ntmps34
  go_wp2
  go_ret
  exact ⟨rfl, rfl⟩
/-- Nothing appended to an empty literal. -/
theorem app_nothing (w : World) (b : Addr) (ty : TypeId) (a : Option Addr) (c : Nat) : (Builtin.append_ #[29, 29] ty #[.slice (some b) 0 0, .slice a 0 c]).run Try.prog w = .ok (.slice (some b) 0 0) w := by
  have i1 : ((Try.prog.info? 28).bind fun i => i.zero) = some zP := by kernel_rfl
  have i2 : ((Try.prog.info? 28).map fun i => (i.size, i.bytes)) = some (2, 32) := by kernel_rfl
  cases hi : Try.prog.info? 28 with
  | none => rw [hi] at i2; cases i2
  | some i0 =>
    rw [hi] at i1 i2
    simp only [Option.bind_some, Option.map_some, Option.some.injEq, Prod.mk.injEq] at i1 i2
    have fc : ∀ w : World, (Builtin.firstCells i0.size 0 (.slice a 0 c)).run Try.prog w = .ok #[] w := fun w => by
      cases a with
      | none => exact run_firstCells_none w i0.size 0 0 c
      | some a => exact run_firstCells_some w i0.size 0 a 0 c [] (by simp) (fun j v hj => by simp at hj)
    obtain ⟨h1, _⟩ := append_run (P := Try.prog) (w := w) (argTypes := #[29, 29]) (ty := ty) (st := 29) (xt := 29) (e := 28) (args := #[.slice (some b) 0 0, .slice a 0 c]) (bs := some b) (sLen := 0) (sCap := 0) (m := 0) (x := .slice a 0 c) (i := i0) (z := zP) (news := #[])
      rfl rfl rfl rfl Try.underlying29 hi i1 (by rw [i2.1]; rfl) (by omega) (by omega) ⟨.inr ⟨.inr ⟨_, Try.underlying29⟩, fun w0 => rfl, fc w, fc w.drew⟩⟩
    rw [h1 (Nat.le_refl _)]
    rfl
set_option maxHeartbeats 1000000 in
theorem clone_some (a : Addr) (c : Nat) (w : World) : Calls Try.prog 34 #[.slice (some a) 0 c] w fun e w' => e = .returned (.slice (some ⟨w.heap.size, 0, none⟩) 0 0) ∧ Below w.heap.size w w' ∧ w.heap.size ≤ w'.heap.size := by
  have q22 : ∀ (w : World) (a : Option Addr) (n c n' c' : Nat), (binOp .eql 29 (.slice a n c) (.slice none n' c')).run Try.prog w = .ok (.bool a.isNone) w := fun w a n c n' c' => Lib.run_eql_slice_nil w _ _ a n c n' c' Try.underlying29
  go_enter Try.func34, Try.ntmps34
  go_wp2_with (at_builtin; refine Lib.wpList_append_run_sl _ rfl _ _ _ rfl _ _ rfl rfl (app_nothing _ _ _ _ _) ?_)
  go_wp2
  go_ret
  exact ⟨rfl, (Below.refl _ w).alloc (Nat.le_refl _) _, by simp⟩
theorem clone_ok : PFOk Try.prog 34 (cloneP std) := by
  refine ⟨fun {zf base w} hbase hz0 {d} hpre {xs} hraw {args'} hl => ?_⟩
  obtain ⟨ys, u⟩ := d
  by_cases hy : ys = []
  · subst hy
    have hx : xs = [dsl zP []] := by
      have e : rawVs deep0 (cloneP std).zs ((cloneP std).args (([] : List Value), ())) = some [dsl zP []] := rfl
      rw [show rawVs deep0 (cloneP std).zs ((cloneP std).args (([] : List Value), u)) = some [dsl zP []] from e] at hraw
      exact (Option.some.inj hraw).symm
    subst hx
    obtain ⟨v, l, e, r, hl⟩ := hl.inv_cons
    have := hl.inv_nil; subst this
    have hv : ∃ a k, v = .slice a 0 k := by
      rcases r with ⟨_, r⟩ | ⟨_, _, e, _⟩
      · rcases r.inv with ⟨_, a, k, e⟩ | ⟨c, o, k, val, e, _⟩
        · exact ⟨a, k, e⟩
        · exact ⟨_, _, e⟩
      · simp [dsl] at e
    obtain ⟨a, k, rfl⟩ := hv
    have : args' = #[.slice a 0 k] := Array.toList_inj.1 e
    subst this
    obtain ⟨c, hb⟩ : ∃ c, Try.f34.body = some c := ⟨_, rfl⟩
    have hn := Try.progOk.name Try.func34
    refine .inr ⟨by simp [callFunc, Try.func34, hn, hb], ?_⟩
    have fin : ∀ {a' : Option Addr} {w' : World}, Below w.heap.size w w' → ∃ v', Ending.returned (.slice a' 0 0) = .returned v' ∧ ∃ z2 tk, POut zf base w (cloneP std) (([] : List Value), u) v' w' z2 tk := fun {a' w'} hbl => by
      refine ⟨_, rfl, zf, none, hbl, fun _ _ _ h => h, fun _ _ _ h => .inl h, fun c i a h => ?_, fun {μ b} hz ht => ?_, fun _ b => rfl, fun p h => by cases h⟩
      · obtain ⟨arr', e', fr', h2, h3⟩ := hz0 c i a h
        exact ⟨arr', e', fr', (hbl.block c (Array.getElem?_eq_some_iff.1 h2).1).trans h2, h3⟩
      · show VR μ (osl zP [] b) _
        exact .zero (.osl .nil rfl (.inl rfl))
    cases a with
    | none =>
      refine (clone_none 0 k w).mono ?_
      rintro en w' ⟨rfl, rfl⟩
      exact fin (Below.refl _ _)
    | some a =>
      refine (clone_some a k w).mono ?_
      rintro en w' ⟨rfl, hbl, _⟩
      exact fin hbl
  · exact pf_out (LS := noL) Try.progOk (noCon_ok _) (inCallF_ok 60) (cloneP std) Try.func34 (show _ = some (bodyS Try.prog 34) by kernel_rfl) (n := 40) (clone_run ys hy hpre) hbase hz0 hraw hl
theorem rngCon_ok : ConOk Try.prog (rngCon std kvF) := conL_ok fun x hx => by
  simp only [List.mem_cons, List.not_mem_nil, or_false] at hx
  rcases hx with rfl | rfl
  · exact pcon_ok bs_ok
  · exact pcon_ok clone_ok
theorem rng_ok : PFOk Try.prog 27 (rngP std kvF) :=
  pf_ok (LS := fun _ => noL) Try.progOk rngCon_ok (inCallF_ok 60) (rngP std kvF) Try.func27 (show _ = some (bodyS Try.prog 27) by kernel_rfl) fun d hd => rng_run d.1 d.2.1 d.2.2.1 hd
end Go.Proofs.Ytmhfnbbamoadgaa
end
section
namespace Go.Proofs.Ytmhfnbbamoadgaa
open Go.Abs Go
set_option maxRecDepth 100000
def nestP (g : KvF) (xs ps : List Value) (J : NIL → Prop) (q : NIL → Nat) (G : RgC → Prop) (w : RgC → Nat) : Prop :=
  (∃ (e0 : NIL), (([(Filler.dl ps), (Filler.dl (g.pairs xs)), (Filler.val (Value.int IntKind.i64 (e0.n))), (Filler.val (Value.int IntKind.i64 (e0.i)))] = [(Filler.dl ps), (Filler.dl (g.pairs xs)), (Filler.val (Value.int IntKind.i64 ((List.length (g.pairs xs)) : Int))), (Filler.val (Value.int IntKind.i64 (0 : Int)))]) ∧ ((J e0) ∧ (∀ (e1 : NIL), ((J e1) → ((((decide ((e1.i) < (e1.n))) = true) → (∃ (e2 : RgC), (([(Filler.dl ps), (Filler.dl (g.pairs xs)), (Filler.val (Value.int IntKind.i64 (e2.a))), (Filler.val (Value.int IntKind.i64 (e2.n))), (Filler.val (Value.int IntKind.i64 (e2.i))), (Filler.val (Value.int IntKind.i64 (e2.m))), (Filler.val (Value.int IntKind.i64 (e2.e)))] = [(Filler.dl ps), (Filler.dl (g.pairs xs)), (Filler.val (Value.int IntKind.i64 (e1.i))), (Filler.val (Value.int IntKind.i64 (e1.n))), (Filler.val (Value.int IntKind.i64 (e1.i))), (Filler.val (Value.int IntKind.i64 ((List.length (g.pairs xs)) : Int))), (Filler.val (Value.int IntKind.i64 (0 : Int)))]) ∧ ((G e2) ∧ (∀ (e3 : RgC), ((G e3) → (([(Value.int IntKind.i64 (e3.a)), (Value.int IntKind.i64 (e3.n)), (Value.int IntKind.i64 (e3.i))] = [(Value.int IntKind.i64 (e2.a)), (Value.int IntKind.i64 (e2.n)), (Value.int IntKind.i64 (e2.i))]) → ((((decide ((e3.e) < (e3.m))) = true) → ((((0 : Int) ≤ (e3.a)) ∧ ((e3.a) < ((List.length (g.pairs xs)) : Int))) ∧ ((((std.slen (kP (g.pairs xs) (Int.toNat (e3.a)))) ≤ 1000000) ∧ ((std.slen (vP (g.pairs xs) (Int.toNat (e3.a)))) ≤ 1000000)) ∧ ((((0 : Int) ≤ (e3.e)) ∧ ((e3.e) < ((List.length (g.pairs xs)) : Int))) ∧ ((((std.slen (kP (g.pairs xs) (Int.toNat (e3.e)))) ≤ 1000000) ∧ ((std.slen (vP (g.pairs xs) (Int.toNat (e3.e)))) ≤ 1000000)) ∧ (((List.length (g.leaf (kP (g.pairs xs) (Int.toNat (e3.a))) (vP (g.pairs xs) (Int.toNat (e3.a))))) ≤ 1000000) ∧ ((((g.sameb (g.leaf (kP (g.pairs xs) (Int.toNat (e3.a))) (vP (g.pairs xs) (Int.toNat (e3.a)))) (g.leaf (kP (g.pairs xs) (Int.toNat (e3.e))) (vP (g.pairs xs) (Int.toNat (e3.e))))) = true) → (((((e3.a) == (e3.e)) = true) → ((((-9223372036854775808 : Int) ≤ ((e3.e) + (1 : Int))) ∧ (((e3.e) + (1 : Int)) ≤ (9223372036854775807 : Int))) ∧ (∃ (e4 : RgC), (([(Filler.dl ps), (Filler.dl (g.pairs xs)), (Filler.val (Value.int IntKind.i64 (e4.a))), (Filler.val (Value.int IntKind.i64 (e4.n))), (Filler.val (Value.int IntKind.i64 (e4.i))), (Filler.val (Value.int IntKind.i64 (e4.m))), (Filler.val (Value.int IntKind.i64 (e4.e)))] = [(Filler.dl ps), (Filler.dl (g.pairs xs)), (Filler.val (Value.int IntKind.i64 (e3.a))), (Filler.val (Value.int IntKind.i64 (e3.n))), (Filler.val (Value.int IntKind.i64 (e3.i))), (Filler.val (Value.int IntKind.i64 (e3.m))), (Filler.val (Value.int IntKind.i64 ((e3.e) + (1 : Int))))]) ∧ ((Nat.le (Nat.succ (w e4)) (w e3)) ∧ (([(Value.int IntKind.i64 (e4.a)), (Value.int IntKind.i64 (e4.n)), (Value.int IntKind.i64 (e4.i))] = [(Value.int IntKind.i64 (e2.a)), (Value.int IntKind.i64 (e2.n)), (Value.int IntKind.i64 (e2.i))]) ∧ (G e4))))))) ∧ ((((e3.a) == (e3.e)) = false) → ([(Value.bool false)] = [(Value.bool true)])))) ∧ (((g.sameb (g.leaf (kP (g.pairs xs) (Int.toNat (e3.a))) (vP (g.pairs xs) (Int.toNat (e3.a)))) (g.leaf (kP (g.pairs xs) (Int.toNat (e3.e))) (vP (g.pairs xs) (Int.toNat (e3.e))))) = false) → (((((e3.a) == (e3.e)) = true) → ([(Value.bool false)] = [(Value.bool true)])) ∧ ((((e3.a) == (e3.e)) = false) → ((((-9223372036854775808 : Int) ≤ ((e3.e) + (1 : Int))) ∧ (((e3.e) + (1 : Int)) ≤ (9223372036854775807 : Int))) ∧ (∃ (e4 : RgC), (([(Filler.dl ps), (Filler.dl (g.pairs xs)), (Filler.val (Value.int IntKind.i64 (e4.a))), (Filler.val (Value.int IntKind.i64 (e4.n))), (Filler.val (Value.int IntKind.i64 (e4.i))), (Filler.val (Value.int IntKind.i64 (e4.m))), (Filler.val (Value.int IntKind.i64 (e4.e)))] = [(Filler.dl ps), (Filler.dl (g.pairs xs)), (Filler.val (Value.int IntKind.i64 (e3.a))), (Filler.val (Value.int IntKind.i64 (e3.n))), (Filler.val (Value.int IntKind.i64 (e3.i))), (Filler.val (Value.int IntKind.i64 (e3.m))), (Filler.val (Value.int IntKind.i64 ((e3.e) + (1 : Int))))]) ∧ ((Nat.le (Nat.succ (w e4)) (w e3)) ∧ (([(Value.int IntKind.i64 (e4.a)), (Value.int IntKind.i64 (e4.n)), (Value.int IntKind.i64 (e4.i))] = [(Value.int IntKind.i64 (e2.a)), (Value.int IntKind.i64 (e2.n)), (Value.int IntKind.i64 (e2.i))]) ∧ (G e4)))))))))))))))) ∧ (((decide ((e3.e) < (e3.m))) = false) → ((((-9223372036854775808 : Int) ≤ ((e3.i) + (1 : Int))) ∧ (((e3.i) + (1 : Int)) ≤ (9223372036854775807 : Int))) ∧ (∃ (e5 : NIL), (([(Filler.dl ps), (Filler.dl (g.pairs xs)), (Filler.val (Value.int IntKind.i64 (e5.n))), (Filler.val (Value.int IntKind.i64 (e5.i)))] = [(Filler.dl ps), (Filler.dl (g.pairs xs)), (Filler.val (Value.int IntKind.i64 (e3.n))), (Filler.val (Value.int IntKind.i64 ((e3.i) + (1 : Int))))]) ∧ ((Nat.le (Nat.succ (q e5)) (q e1)) ∧ (J e5)))))))))))))) ∧ (((decide ((e1.i) < (e1.n))) = false) → (((((0 : Int) ≤ (std.imin ((List.length ps) : Int) (6 : Int))) ∧ ((std.imin ((List.length ps) : Int) (6 : Int)) ≤ ((List.length ps) : Int))) ∧ True) ∧ ((((List.length (List.take ((Int.toNat (std.imin ((List.length ps) : Int) (6 : Int))) - 0) (List.drop 0 ps))) * 32) ≤ 140737488355328) ∧ (((List.length (List.take ((Int.toNat (std.imin ((List.length ps) : Int) (6 : Int))) - 0) (List.drop 0 ps))) ≤ 1000000) ∧ ((((g.right (List.take ((Int.toNat (std.imin ((List.length ps) : Int) (6 : Int))) - 0) (List.drop 0 ps))) = true) → (((List.length (List.take ((Int.toNat (std.imin ((List.length ps) : Int) (6 : Int))) - 0) (List.drop 0 ps))) ≤ 1000000) ∧ ((((g.rright (List.take ((Int.toNat (std.imin ((List.length ps) : Int) (6 : Int))) - 0) (List.drop 0 ps))) = true) → (((List.length (g.pairs xs)) ≤ 1000000) ∧ ((((g.right (g.pairs xs)) = true) → ([(Value.bool true)] = [(Value.bool true)])) ∧ (((g.right (g.pairs xs)) = false) → ([(Value.bool false)] = [(Value.bool true)]))))) ∧ (((g.rright (List.take ((Int.toNat (std.imin ((List.length ps) : Int) (6 : Int))) - 0) (List.drop 0 ps))) = false) → ([(Value.bool false)] = [(Value.bool true)]))))) ∧ (((g.right (List.take ((Int.toNat (std.imin ((List.length ps) : Int) (6 : Int))) - 0) (List.drop 0 ps))) = false) → (((List.length (List.take ((Int.toNat (std.imin ((List.length ps) : Int) (6 : Int))) - 0) (List.drop 0 ps))) ≤ 1000000) ∧ ((((g.rright (List.take ((Int.toNat (std.imin ((List.length ps) : Int) (6 : Int))) - 0) (List.drop 0 ps))) = true) → ([(Value.bool false)] = [(Value.bool true)])) ∧ (((g.rright (List.take ((Int.toNat (std.imin ((List.length ps) : Int) (6 : Int))) - 0) (List.drop 0 ps))) = false) → (((List.length (g.pairs xs)) ≤ 1000000) ∧ ((((g.right (g.pairs xs)) = true) → ([(Value.bool true)] = [(Value.bool true)])) ∧ (((g.right (g.pairs xs)) = false) → ([(Value.bool false)] = [(Value.bool true)])))))))))))))))))))
end Go.Proofs.Ytmhfnbbamoadgaa
end
section
namespace Go.Proofs.Ytmhfnbbamoadgaa
open Go.RowKit Go.Abs Go
def nestJ (l : List Value) (d : NIL) : Prop := d.n = l.length ∧ ∃ i : Nat, d.i = i ∧ i ≤ l.length
def nestG (l : List Value) (d : RgC) : Prop := d.n = l.length ∧ d.m = l.length ∧ d.a = d.i ∧ (∃ i : Nat, d.a = i ∧ i < l.length) ∧ ∃ e : Nat, d.e = e ∧ e ≤ l.length
theorem key_small {l : List Value} (h : RightL l) {i : Nat} (hi : i < l.length) : lenB (kP l i) ≤ 16 ∧ lenB (vP l i) ≤ 24 := by
  have := ((right_iff l).1 h.1).1 _ (List.getElem_mem hi)
  rw [kP_get hi, vP_get hi]
  unfold mayF at this
  simp only [Bool.and_eq_true, decide_eq_true_eq] at this
  omega
theorem key_diff {l : List Value} (h : RightL l) {i j : Nat} (hi : i < l.length) (hj : j < l.length) (e : kP l i = kP l j) : i = j := by
  have ho := ((right_iff l).1 h.1).2.1
  rw [kP_get hi, kP_get hj] at e
  rcases Nat.lt_trichotomy i j with h1 | h1 | h1
  · have := (List.pairwise_iff_getElem.1 ho) i j hi hj h1
    rw [e, lt_irrefl] at this; cases this
  · exact h1
  · have := (List.pairwise_iff_getElem.1 ho) j i hj hi h1
    rw [e, lt_irrefl] at this; cases this
theorem sameb_iff {xs ys : List Value} (h : samebF xs ys = true) (hx : ∀ x ∈ xs, ∃ n, x = .int .u8 n) (hy : ∀ x ∈ ys, ∃ n, x = .int .u8 n) : xs = ys := by
  unfold samebF at h
  rw [Bool.and_eq_true, beq_iff_eq, List.all_eq_true] at h
  refine List.ext_getElem h.1 fun i h1 h2 => ?_
  have := h.2 i (List.mem_range.2 h1)
  rw [beq_iff_eq] at this
  unfold eB at this
  rw [List.getD_eq_getElem?_getD, List.getD_eq_getElem?_getD, List.getElem?_eq_getElem h1, List.getElem?_eq_getElem h2] at this
  obtain ⟨n, e1⟩ := hx _ (List.getElem_mem h1)
  obtain ⟨m, e2⟩ := hy _ (List.getElem_mem h2)
  simp only [Option.getD_some, e1, e2, dint] at this
  rw [e1, e2, this]
theorem sameb_self (xs : List Value) : samebF xs xs = true := by
  unfold samebF
  rw [beq_self_eq_true, Bool.true_and, List.all_eq_true]
  exact fun i _ => beq_self_eq_true _
theorem oneL_ints : ∀ (f : Nat) (n : Int), ∀ x ∈ oneL f n, ∃ m, x = .int .u8 m
  | 0, n, x, h => by simp [oneL] at h
  | f + 1, n, x, h => by
    unfold oneL at h
    split at h
    · rcases List.mem_cons.1 h with rfl | h
      · exact ⟨_, rfl⟩
      · exact oneL_ints f _ x h
    · rw [List.mem_singleton.1 h]; exact ⟨_, rfl⟩
theorem leaf_ints (k v : ByteArray) : ∀ x ∈ leafF k v, ∃ m, x = .int .u8 m := by
  intro x h
  have sv : ∀ s : ByteArray, x ∈ std.svals s → ∃ m, x = .int .u8 m := fun s h => by
    obtain ⟨b, _, rfl⟩ := List.mem_map.1 h
    exact ⟨_, rfl⟩
  have e : leafF k v = oneF (lenB k : Int) ++ std.svals k ++ (oneF (lenB v : Int) ++ std.svals v ++ []) := rfl
  rw [e] at h
  simp only [List.append_nil, List.mem_append] at h
  rcases h with (h | h) | h | h
  · exact oneL_ints _ _ x h
  · exact sv _ h
  · exact oneL_ints _ _ x h
  · exact sv _ h
theorem leaf_same {l : List Value} (h : RightL l) {i j : Nat} (hi : i < l.length) (hj : j < l.length) : samebF (leafF (kP l i) (vP l i)) (leafF (kP l j) (vP l j)) = decide (i = j) := by
  by_cases e : i = j
  · subst e; rw [sameb_self, decide_eq_true rfl]
  · rw [decide_eq_false e]
    cases hc : samebF (leafF (kP l i) (vP l i)) (leafF (kP l j) (vP l j)) with
    | false => rfl
    | true =>
      have h1 := sameb_iff hc (leaf_ints _ _) (leaf_ints _ _)
      have h2 := key_small h hi
      have h3 := key_small h hj
      exact absurd (key_diff h hi hj (leaf_inj (by omega) (by omega) h1)) e
theorem leaf_len {k v : ByteArray} (hk : lenB k ≤ 16) (hv : lenB v ≤ 24) : (leafF k v).length ≤ 1000000 := by
  have e : leafF k v = oneF (lenB k : Int) ++ std.svals k ++ (oneF (lenB v : Int) ++ std.svals v ++ []) := rfl
  have h1 := oneL_len 7 (lenB k : Int)
  have h2 := oneL_len 7 (lenB v : Int)
  rw [e]
  simp only [List.length_append, svals_len, List.length_nil]
  show (oneL 7 _).length + _ + ((oneL 7 _).length + _ + 0) ≤ _
  omega
theorem nest_ok (xs ps : List Value) (hL : RightL (kvF.pairs xs)) : nestP kvF xs ps (nestJ (kvF.pairs xs)) (fun d => (d.n - d.i).toNat) (nestG (kvF.pairs xs)) fun d => (d.m - d.e).toNat := by
  unfold nestP
  generalize kvF.pairs xs = l at hL ⊢
  have hlen := ((right_iff l).1 hL.1).2.2
  refine ⟨⟨l.length, 0⟩, rfl, ⟨rfl, 0, rfl, Nat.zero_le _⟩, fun d ⟨hn, i, hi, hle⟩ => ⟨fun h => ?_, fun h => ?_⟩⟩
  · have h := of_decide_eq_true h
    refine ⟨⟨d.n, d.i, d.i, l.length, 0⟩, rfl, ⟨hn, rfl, rfl, ⟨i, hi, by omega⟩, 0, rfl, Nat.zero_le _⟩, fun e ⟨g1, g2, g3, ⟨ia, g4, g5⟩, je, g6, g7⟩ hgh => ⟨fun h2 => ?_, fun h2 => ?_⟩⟩
    · have h2 := of_decide_eq_true h2
      have hj : je < l.length := by omega
      have s1 := key_small hL g5
      have s2 := key_small hL hj
      have hs := leaf_same hL g5 hj
      have hll := leaf_len s1.1 s1.2
      have next : (-9223372036854775808 ≤ e.e + 1 ∧ e.e + 1 ≤ 9223372036854775807) ∧ ∃ e4 : RgC, [Filler.dl ps, Filler.dl l, Filler.val (Value.int IntKind.i64 e4.a), Filler.val (Value.int IntKind.i64 e4.n), Filler.val (Value.int IntKind.i64 e4.i), Filler.val (Value.int IntKind.i64 e4.m), Filler.val (Value.int IntKind.i64 e4.e)] = [Filler.dl ps, Filler.dl l, Filler.val (Value.int IntKind.i64 e.a), Filler.val (Value.int IntKind.i64 e.n), Filler.val (Value.int IntKind.i64 e.i), Filler.val (Value.int IntKind.i64 e.m), Filler.val (Value.int IntKind.i64 (e.e + 1))] ∧ Nat.le (Nat.succ (e4.m - e4.e).toNat) (e.m - e.e).toNat ∧ ([Value.int IntKind.i64 e4.a, Value.int IntKind.i64 e4.n, Value.int IntKind.i64 e4.i] = [Value.int IntKind.i64 d.i, Value.int IntKind.i64 d.n, Value.int IntKind.i64 d.i] ∧ nestG l e4) := by
        refine ⟨by omega, ⟨e.n, e.i, e.a, e.m, e.e + 1⟩, rfl, ?_, hgh, g1, g2, g3, ⟨ia, g4, g5⟩, je + 1, by show e.e + 1 = _; omega, by omega⟩
        show (e.m - (e.e + 1)).toNat + 1 ≤ (e.m - e.e).toNat
        omega
      rw [show e.a.toNat = ia by omega, show e.e.toNat = je by omega]
      refine ⟨by omega, ⟨by have := s1.1; exact Nat.le_trans this (by omega), by have := s1.2; exact Nat.le_trans this (by omega)⟩, by omega, ⟨by have := s2.1; exact Nat.le_trans this (by omega), by have := s2.2; exact Nat.le_trans this (by omega)⟩, hll, fun h3 => ⟨fun _ => next, fun h4 => ?_⟩, fun h3 => ⟨fun h4 => ?_, fun _ => next⟩⟩
      · exfalso
        have h3 : samebF (leafF (kP l ia) (vP l ia)) (leafF (kP l je) (vP l je)) = true := h3
        rw [hs] at h3
        have h3 := of_decide_eq_true h3
        have h4 : (e.a == e.e) = false := h4
        rw [beq_eq_false_iff_ne] at h4
        omega
      · exfalso
        have h3 : samebF (leafF (kP l ia) (vP l ia)) (leafF (kP l je) (vP l je)) = false := h3
        rw [hs] at h3
        have h3 := of_decide_eq_false h3
        have h4 : (e.a == e.e) = true := h4
        rw [beq_iff_eq] at h4
        omega
    · have h2 := of_decide_eq_false h2
      simp only [List.cons.injEq, Value.int.injEq, true_and, and_true] at hgh
      refine ⟨by omega, ⟨e.n, e.i + 1⟩, rfl, ?_, g1, i + 1, by show e.i + 1 = _; omega, by omega⟩
      show (e.n - (e.i + 1)).toNat + 1 ≤ (d.n - d.i).toNat
      omega
  · have hT : (List.take ((std.imin (ps.length : Int) 6).toNat - 0) (List.drop 0 ps)).length ≤ 6 := by
      rw [List.length_take]
      have : std.imin (ps.length : Int) 6 ≤ 6 := by
        show (if (6 : Int) < ps.length then 6 else (ps.length : Int)) ≤ 6
        split <;> omega
      omega
    have hm : 0 ≤ std.imin (ps.length : Int) 6 ∧ std.imin (ps.length : Int) 6 ≤ (ps.length : Int) := by
      show 0 ≤ (if (6 : Int) < ps.length then 6 else (ps.length : Int)) ∧ (if (6 : Int) < ps.length then 6 else (ps.length : Int)) ≤ (ps.length : Int)
      split <;> omega
    generalize List.take ((std.imin (ps.length : Int) 6).toNat - 0) (List.drop 0 ps) = T at hT ⊢
    have hrr : ∀ l : List Value, kvF.rright l = kvF.right l := fun l => by
      show rightF rmayF l = rightF mayF l
      have : rmayF = mayF := by funext k v; exact may_rmay k v
      rw [this]
    have hr : kvF.right l = true := hL.1
    refine ⟨⟨hm, trivial⟩, by omega, by omega, fun h1 => ⟨by omega, fun h2 => ⟨by omega, fun _ => rfl, fun h3 => ?_⟩, fun h2 => ?_⟩, fun h1 => ⟨by omega, fun h2 => ?_, fun h2 => ⟨by omega, fun _ => rfl, fun h3 => ?_⟩⟩⟩
    · rw [hr] at h3; cases h3
    · rw [hrr, h1] at h2; cases h2
    · rw [hrr, h1] at h2; cases h2
    · rw [hr] at h3; cases h3
def walkI (l : List Value) (a b : ByteArray) (d : RgA) : Prop := d.n = l.length ∧ ∃ i : Nat, d.i = i ∧ i ≤ l.length ∧ d.j = (((l.take i).filter (inRange a b)).length : Nat)
end Go.Proofs.Ytmhfnbbamoadgaa
end
section
namespace Go.Proofs.Ytmhfnbbamoadgaa
open Go.RowKit Go.Abs Go
noncomputable section
structure MiF where
  idx : List Value → Int
  recs : List Value → List Value
  te : Int → Int → List Value → Int
  th : Int → Int → List Value → Int
  tb : Int → Int → Int → List Value → Int
  tr : Int → List Value → Int → List Value → List Value
  tl : Int → Bool → Int → List Value → Bool
variable (S : Sy) (g : KvF) (t : StF) (u : MiF)
/-- The first that is no record; -1: none. -/
def idxP : PF := pf (.cons cP (.cons (cF 33 rfl) .nil)) (fun d => S.nle (S.len d.1) LIM) [zI] fun d => [mk (.int .i64 (u.idx d.1))]
def idxLs (xs : List Value) (I : NIL → Prop) (m : NIL → Nat) : Loops := loop1 { D := NIL, sh := ⟨slotsOf 19 [(0, .one (.zero (.deep zP))), (1, .one (.zero (.lit (fnV 33)))), (6, .one (.zero (.deep zP))), (7, .one (.zero .hole)), (8, .one (.zero .hole))], []⟩, rho := fun _ => [], fills := fun d => [.dl xs, .dl xs, .val (.int .i64 d.n), .val (.int .i64 d.i)], I := I, m := m } 0
def cloneQ : PF := pf (.cons cP .nil) (fun d => S.nle (S.len d.1) LIM) [dsl zP []] fun d => [dsl zP d.1]
def recsP : PF := pf (.cons cIs .nil) (fun d => S.nle (S.len d.1) 9223372036854775807 ∧ ∀ i, S.nlt i (S.len d.1) → inI S (S.dint (S.get zI d.1 i))) [dsl zP []] fun d => [dsl zP (u.recs d.1)]
def recsSh : Shape := ⟨slotsOf 42 [(3, .one (.zero (.osl 0 zP))), (7, .one (.zero (.deep zI))), (8, .one (.zero .hole)), (9, .one (.zero .hole))], [some .tok]⟩
def recsLs (xs : List Value) (I : CatB → Prop) (m : CatB → Nat) : Loops := loop1 { D := CatB, sh := recsSh, rho := recsSh.find 0, fills := fun d => [.dl d.r, .dl xs, .val (.int .i64 d.n), .val (.int .i64 d.i)], I := I, m := m } 0
def mirB : SB := .cells [.zero .hole, .zero .hole, .zero (.deep zP), .zero .boo] false
/-- The call's query, height, pairs; a mirror's height, backing, records, halted. -/
def takeO : OF := ⟨[.int .i64, .int .i64, .dl, .int .i64, .int .i64, .dl, .boo], ⟨[some (.one (.zero (.ptr 0 0))), some (.agg [.zero .hole, .zero .hole, .zero (.deep zP)])], [some mirB]⟩, fun d => S.nle (S.len d.2.2.1) LIM, [.one (.zero .hole)], [some mirB],
  fun d => [.val (.int .i64 (u.te d.2.2.2.1 d.2.1 d.2.2.1)), .val (.int .i64 (u.th d.2.2.2.1 d.2.1 d.2.2.1)), .val (.int .i64 (u.tb d.2.2.2.1 d.2.2.2.2.1 d.2.1 d.2.2.1)), .dl (u.tr d.2.2.2.1 d.2.2.2.2.2.1 d.2.1 d.2.2.1), .val (.bool (u.tl d.2.2.2.1 d.2.2.2.2.2.2.1 d.2.1 d.2.2.1))]⟩
def copyO : OF := ⟨[.int .i64, .int .i64, .dl, .boo], ⟨[some (.one (.zero (.ptr 0 0)))], [some mirB]⟩, fun d => S.nle (S.len d.2.2.1) LIM, [.one (.zero (.ptr 1 0))], [some mirB, some mirB],
  fun d => [.val (.int .i64 d.1), .val (.int .i64 d.2.1), .dl d.2.2.1, .val (.bool d.2.2.2.1), .val (.int .i64 d.1), .val (.int .i64 d.2.1), .dl d.2.2.1, .val (.bool d.2.2.2.1)]⟩
def recO : OF := ⟨[.int .i64, .int .i64, .dl, .boo], ⟨[some (.one (.zero (.ptr 0 0)))], [some mirB]⟩, fun d => S.nle (S.len d.2.2.1) LIM, [.one (.zero (.deep zP))], [some mirB],
  fun d => [.dl d.2.2.1, .val (.int .i64 d.1), .val (.int .i64 d.2.1), .dl d.2.2.1, .val (.bool d.2.2.2.1)]⟩
def takeCon : Con := (conL [(31, pcon (rightP S g)), (56, pcon (idxP S u)), (28, pcon (bckP S t))]).draw [(34, dcon (cloneQ S))]
def copyCon : Con := conL [(34, pcon (cloneQ S))]
def recsCon : Con := conL [(15, pcon (withinP S g)), (37, pcon (rrcdP S t))]
structure MpL where
  h : Int
  b : Int
  hal : Bool
  rc : List Value
  i : Int
  mh : Int
  mb : Int
  mr : List Value
  ml : Bool
structure MpK where
  h : Int
  b : Int
  hal : Bool
  rc : List Value
  i : Int
  mh : Int
  mb : Int
  mr : List Value
  ml : Bool
  kq : Int
  kh : Int
  kp : List Value
  ri : Bool
  n : Int
  j : Int
def mpSh : Shape := ⟨slotsOf 154 [(0, .one (.zero (.deep zI))), (1, .one (.zero (.deep (dsl zI [])))), (2, .one (.zero (.deep zP))), (7, .one (.zero (.ptr 0 0))), (8, .one (.zero .hole)), (9, .one (.zero .hole)), (10, .one (.zero .boo)), (11, .one (.zero (.deep zP))), (12, .one (.zero .hole))], [some mirB]⟩
def callB : SB := .cells [.zero .hole, .zero .hole, .zero (.deep zP)] false
def mpSh2 : Shape := ⟨slotsOf 154 [(0, .one (.zero (.deep zI))), (1, .one (.zero (.deep (dsl zI [])))), (2, .one (.zero (.deep zP))), (7, .one (.zero (.ptr 0 0))), (8, .one (.zero .hole)), (9, .one (.zero .hole)), (10, .one (.zero .boo)), (11, .one (.zero (.deep zP))), (12, .one (.zero .hole)), (13, .one (.zero (.ptr 1 0))), (14, .one (.zero .boo)), (74, .one (.zero (.deep zP))), (75, .one (.zero .hole)), (76, .one (.zero .hole))], [some mirB, some callB]⟩
def mpLs (hs rows raw : List Value) (I : MpL → Prop) (m : MpL → Nat) (J : MpK → Prop) (q : MpK → Nat) : Loops := fun id =>
  if id = 0 then some [{ D := MpL, sh := mpSh, rho := mpSh.find 0, fills := fun d => [.dl hs, .dl rows, .dl raw, .val (.int .i64 d.h), .val (.int .i64 d.b), .val (.bool d.hal), .dl d.rc, .val (.int .i64 d.i), .val (.int .i64 d.mh), .val (.int .i64 d.mb), .dl d.mr, .val (.bool d.ml)], I := I, m := m }] else
  if id = 2 then some [{ D := MpK, sh := mpSh2, rho := mpSh2.find 0, fills := fun d => [.dl hs, .dl rows, .dl raw, .val (.int .i64 d.h), .val (.int .i64 d.b), .val (.bool d.hal), .dl d.rc, .val (.int .i64 d.i), .val (.bool d.ri), .dl d.kp, .val (.int .i64 d.n), .val (.int .i64 d.j), .val (.int .i64 d.mh), .val (.int .i64 d.mb), .dl d.mr, .val (.bool d.ml), .val (.int .i64 d.kq), .val (.int .i64 d.kh), .dl d.kp], I := J, m := q, gh := some fun d => [.int .i64 d.i] }] else none
def mpCon : Con := (conL [(9, ocon (takeO S u)), (16, ocon (copyO S)), (14, ocon (recO S)), (18, pcon (pairsP S g)), (19, pcon (rrightP S g)), (21, pcon (rbckP S t)), (22, pcon (sameP S g)), (3, closedC (.bool true))]).draw [(15, dcon (withinP S g)), (17, dcon (recsP S u))]
def cRows : Cod (List Value) := cL (dsl zI []) rfl
def mpP : PF := pf (.cons cIs (.cons cRows (.cons cP .nil))) (fun _ => True) [.bool false] fun _ => [.bool true]
end
end Go.Proofs.Ytmhfnbbamoadgaa
end
section
namespace Go.Proofs.Ytmhfnbbamoadgaa
open Go.Abs Go
set_option maxRecDepth 100000 in
theorem idx_vc (u : MiF) (xs : List Value) (I : NIL → Prop) (m : NIL → Nat) : runP std noCon 40 (idxLs xs I m) (idxP std u) 56 Try.f56 (xs, (), ()) =
  (∃ (d6 : NIL), (([(Filler.dl xs), (Filler.dl xs), (Filler.val (Value.int IntKind.i64 (d6.n))), (Filler.val (Value.int IntKind.i64 (d6.i)))] = [(Filler.dl xs), (Filler.dl xs), (Filler.val (Value.int IntKind.i64 ((List.length xs) : Int))), (Filler.val (Value.int IntKind.i64 (0 : Int)))]) ∧ ((I d6) ∧ (∀ (d7 : NIL), ((I d7) → ((((decide ((d7.i) < (d7.n))) = true) → ((((0 : Int) ≤ (d7.i)) ∧ ((d7.i) < ((List.length xs) : Int))) ∧ ((((decide ((2 : Int) ≤ ((std.slen (kP xs (Int.toNat (d7.i)))) : Int))) = true) → (((((0 : Int) ≤ (2 : Int)) ∧ ((2 : Int) ≤ ((std.slen (kP xs (Int.toNat (d7.i)))) : Int))) ∧ True) ∧ ((((std.seq (std.ssub (kP xs (Int.toNat (d7.i))) 0 (Int.toNat (2 : Int))) (ByteArray.mk (Array.mk [(115 : UInt8), (47 : UInt8)]))) = true) → ((((-9223372036854775808 : Int) ≤ ((d7.i) + (1 : Int))) ∧ (((d7.i) + (1 : Int)) ≤ (9223372036854775807 : Int))) ∧ (∃ (d12 : NIL), (([(Filler.dl xs), (Filler.dl xs), (Filler.val (Value.int IntKind.i64 (d12.n))), (Filler.val (Value.int IntKind.i64 (d12.i)))] = [(Filler.dl xs), (Filler.dl xs), (Filler.val (Value.int IntKind.i64 (d7.n))), (Filler.val (Value.int IntKind.i64 ((d7.i) + (1 : Int))))]) ∧ ((Nat.le (Nat.succ (m d12)) (m d7)) ∧ (I d12)))))) ∧ (((std.seq (std.ssub (kP xs (Int.toNat (d7.i))) 0 (Int.toNat (2 : Int))) (ByteArray.mk (Array.mk [(115 : UInt8), (47 : UInt8)]))) = false) → ([(Value.int IntKind.i64 (d7.i))] = [(Value.int IntKind.i64 (u.idx xs))]))))) ∧ (((decide ((2 : Int) ≤ ((std.slen (kP xs (Int.toNat (d7.i)))) : Int))) = false) → ([(Value.int IntKind.i64 (d7.i))] = [(Value.int IntKind.i64 (u.idx xs))]))))) ∧ (((decide ((d7.i) < (d7.n))) = false) → ([(Value.int IntKind.i64 (-1 : Int))] = [(Value.int IntKind.i64 (u.idx xs))])))))))) := by kernel_rfl
set_option maxRecDepth 100000 in
theorem cloneQ_vc (xs : List Value) : runP std noCon 40 noL (cloneQ std) 34 Try.f34 (xs, ()) =
  ((0 < (List.length xs)) ∧ ((((List.length xs) * 32) ≤ 140737488355328) ∧ ([(dsl zP xs)] = [(dsl zP xs)]))) := by kernel_rfl
set_option maxRecDepth 100000 in
theorem take_vc (g : KvF) (t : StF) (u : MiF) (kq kh : Int) (kp : List Value) (mh mb : Int) (mr : List Value) (ml : Bool) : runW std (takeCon std g t u) 60 noL (takeO std u) 9 Try.f9 (kq, kh, kp, mh, mb, mr, ml, ()) =
  (((List.length kp) ≤ 1000000) ∧ ((((g.right kp) = true) → (((List.length kp) ≤ 1000000) ∧ ((((decide ((0 : Int) ≤ (u.idx kp))) = true) → ([(Filler.val (Value.int IntKind.i64 (u.te mh kh kp))), (Filler.val (Value.int IntKind.i64 (u.th mh kh kp))), (Filler.val (Value.int IntKind.i64 (u.tb mh mb kh kp))), (Filler.dl (u.tr mh mr kh kp)), (Filler.val (Value.bool (u.tl mh ml kh kp)))] = [(Filler.val (Value.int IntKind.i64 (1 : Int))), (Filler.val (Value.int IntKind.i64 mh)), (Filler.val (Value.int IntKind.i64 mb)), (Filler.dl mr), (Filler.val (Value.bool ml))])) ∧ (((decide ((0 : Int) ≤ (u.idx kp))) = false) → ((((decide (kh < (std.imax mh (1 : Int)))) = true) → ([(Filler.val (Value.int IntKind.i64 (u.te mh kh kp))), (Filler.val (Value.int IntKind.i64 (u.th mh kh kp))), (Filler.val (Value.int IntKind.i64 (u.tb mh mb kh kp))), (Filler.dl (u.tr mh mr kh kp)), (Filler.val (Value.bool (u.tl mh ml kh kp)))] = [(Filler.val (Value.int IntKind.i64 (8 : Int))), (Filler.val (Value.int IntKind.i64 mh)), (Filler.val (Value.int IntKind.i64 mb)), (Filler.dl mr), (Filler.val (Value.bool ml))])) ∧ (((decide (kh < (std.imax mh (1 : Int)))) = false) → ((((List.length kp) ≤ 1000000) ∧ (∀ (i15 : Nat), ((i15 < (List.length kp)) → ((std.slen (vP kp i15)) ≤ 4000000)))) ∧ ((((t.bok kp) = true) → (((List.length kp) ≤ 1000000) ∧ ((((Option.some (Value.func (Go.Fn.yield 0) (Array.mk [(Value.int IntKind.i64 kh)]) (Array.mk []))) = (Option.some (Value.func (Go.Fn.yield 0) (Array.mk [(Value.int IntKind.i64 kh)]) (Array.mk [])))) ∧ ((Option.some (Value.func (Go.Fn.yield 0) (Array.mk [(Value.int IntKind.i64 kh)]) (Array.mk []))) = (Option.some (Value.func (Go.Fn.yield 0) (Array.mk [(Value.int IntKind.i64 kh)]) (Array.mk []))))) ∧ ([(Filler.val (Value.int IntKind.i64 (u.te mh kh kp))), (Filler.val (Value.int IntKind.i64 (u.th mh kh kp))), (Filler.val (Value.int IntKind.i64 (u.tb mh mb kh kp))), (Filler.dl (u.tr mh mr kh kp)), (Filler.val (Value.bool (u.tl mh ml kh kp)))] = [(Filler.val (Value.int IntKind.i64 (0 : Int))), (Filler.val (Value.int IntKind.i64 kh)), (Filler.val (Value.int IntKind.i64 (t.bck kp))), (Filler.dl kp), (Filler.val (Value.bool false))])))) ∧ (((t.bok kp) = false) → ([(Filler.val (Value.int IntKind.i64 (u.te mh kh kp))), (Filler.val (Value.int IntKind.i64 (u.th mh kh kp))), (Filler.val (Value.int IntKind.i64 (u.tb mh mb kh kp))), (Filler.dl (u.tr mh mr kh kp)), (Filler.val (Value.bool (u.tl mh ml kh kp)))] = [(Filler.val (Value.int IntKind.i64 (10 : Int))), (Filler.val (Value.int IntKind.i64 mh)), (Filler.val (Value.int IntKind.i64 mb)), (Filler.dl mr), (Filler.val (Value.bool true))])))))))))) ∧ (((g.right kp) = false) → ([(Filler.val (Value.int IntKind.i64 (u.te mh kh kp))), (Filler.val (Value.int IntKind.i64 (u.th mh kh kp))), (Filler.val (Value.int IntKind.i64 (u.tb mh mb kh kp))), (Filler.dl (u.tr mh mr kh kp)), (Filler.val (Value.bool (u.tl mh ml kh kp)))] = [(Filler.val (Value.int IntKind.i64 (1 : Int))), (Filler.val (Value.int IntKind.i64 mh)), (Filler.val (Value.int IntKind.i64 mb)), (Filler.dl mr), (Filler.val (Value.bool ml))])))) := by kernel_rfl
set_option maxRecDepth 100000 in
theorem copy_vc (mh mb : Int) (mr : List Value) (ml : Bool) : runW std (copyCon std) 60 noL (copyO std) 16 Try.f16 (mh, mb, mr, ml, ()) =
  (((List.length mr) ≤ 1000000) ∧ ([(Filler.val (Value.int IntKind.i64 mh)), (Filler.val (Value.int IntKind.i64 mb)), (Filler.dl mr), (Filler.val (Value.bool ml)), (Filler.val (Value.int IntKind.i64 mh)), (Filler.val (Value.int IntKind.i64 mb)), (Filler.dl mr), (Filler.val (Value.bool ml))] = [(Filler.val (Value.int IntKind.i64 mh)), (Filler.val (Value.int IntKind.i64 mb)), (Filler.dl mr), (Filler.val (Value.bool ml)), (Filler.val (Value.int IntKind.i64 mh)), (Filler.val (Value.int IntKind.i64 mb)), (Filler.dl mr), (Filler.val (Value.bool ml))])) := by kernel_rfl
set_option maxRecDepth 100000 in
theorem recO_vc (mh mb : Int) (mr : List Value) (ml : Bool) : runW std (copyCon std) 60 noL (recO std) 14 Try.f14 (mh, mb, mr, ml, ()) =
  (((List.length mr) ≤ 1000000) ∧ ([(Filler.dl mr), (Filler.val (Value.int IntKind.i64 mh)), (Filler.val (Value.int IntKind.i64 mb)), (Filler.dl mr), (Filler.val (Value.bool ml))] = [(Filler.dl mr), (Filler.val (Value.int IntKind.i64 mh)), (Filler.val (Value.int IntKind.i64 mb)), (Filler.dl mr), (Filler.val (Value.bool ml))])) := by kernel_rfl
set_option maxRecDepth 100000 in
theorem recs_vc (g : KvF) (t : StF) (u : MiF) (xs : List Value) (I : CatB → Prop) (m : CatB → Nat) : runP std (recsCon std g t) 60 (recsLs xs I m) (recsP std u) 17 Try.f17 (xs, ()) =
  (∃ (d8 : CatB), (([(Filler.dl (d8.r)), (Filler.dl xs), (Filler.val (Value.int IntKind.i64 (d8.n))), (Filler.val (Value.int IntKind.i64 (d8.i)))] = [(Filler.dl []), (Filler.dl xs), (Filler.val (Value.int IntKind.i64 ((List.length xs) : Int))), (Filler.val (Value.int IntKind.i64 (0 : Int)))]) ∧ ((I d8) ∧ (∀ (d9 : CatB), ((I d9) → ((((decide ((d9.i) < (d9.n))) = true) → ((((0 : Int) ≤ (d9.i)) ∧ ((d9.i) < ((List.length xs) : Int))) ∧ ((((decide ((d9.i) < (4 : Int))) = true) → (((((-9223372036854775808 : Int) ≤ (eI xs (Int.toNat (d9.i)))) ∧ ((eI xs (Int.toNat (d9.i))) ≤ (9223372036854775807 : Int))) ∧ (((-1000000000000 : Int) ≤ (0 : Int)) ∧ (((0 : Int) ≤ (60 : Int)) ∧ ((60 : Int) ≤ (2000000000000 : Int))))) ∧ ((((0 : Int) < (8 : Int)) ∧ (((-9223372036854775808 : Int) ≤ (eI xs (Int.toNat (d9.i)))) ∧ ((eI xs (Int.toNat (d9.i))) ≤ (9223372036854775807 : Int)))) ∧ (((((-9223372036854775808 : Int) ≤ (std.quo (eI xs (Int.toNat (d9.i))) (8 : Int))) ∧ ((std.quo (eI xs (Int.toNat (d9.i))) (8 : Int)) ≤ (9223372036854775807 : Int))) ∧ (((-1000000000000 : Int) ≤ (0 : Int)) ∧ (((0 : Int) ≤ (20 : Int)) ∧ ((20 : Int) ≤ (2000000000000 : Int))))) ∧ (((((-9223372036854775808 : Int) ≤ (g.wi (eI xs (Int.toNat (d9.i))) (0 : Int) (60 : Int))) ∧ ((g.wi (eI xs (Int.toNat (d9.i))) (0 : Int) (60 : Int)) ≤ (9223372036854775807 : Int))) ∧ (((-9223372036854775808 : Int) ≤ (g.wi (std.quo (eI xs (Int.toNat (d9.i))) (8 : Int)) (0 : Int) (20 : Int))) ∧ ((g.wi (std.quo (eI xs (Int.toNat (d9.i))) (8 : Int)) (0 : Int) (20 : Int)) ≤ (9223372036854775807 : Int)))) ∧ (((0 : Int) < (11 : Int)) ∧ (((((std.rem (eI xs (Int.toNat (d9.i))) (11 : Int)) == (10 : Int)) = true) → (((0 : Int) < (17 : Int)) ∧ (((((std.rem (eI xs (Int.toNat (d9.i))) (17 : Int)) == (16 : Int)) = true) → (((((-9223372036854775808 : Int) ≤ (1073741824 : Int)) ∧ ((1073741824 : Int) ≤ (9223372036854775807 : Int))) ∧ (((-9223372036854775808 : Int) ≤ (1 : Int)) ∧ ((1 : Int) ≤ (9223372036854775807 : Int)))) ∧ ((((-9223372036854775808 : Int) ≤ ((97 : Int) + (d9.i))) ∧ (((97 : Int) + (d9.i)) ≤ (9223372036854775807 : Int))) ∧ ((((std.slen (ByteArray.mk (Array.mk [(115 : UInt8), (47 : UInt8)]))) + (std.slen (std.sof (std.ints [(Value.int IntKind.u8 (std.wrap IntKind.u8 ((97 : Int) + (d9.i))))])))) ≤ 9223372036854775807) ∧ ((((List.length ((d9.r) ++ [(Value.agg (Array.mk [(Value.string ((ByteArray.mk (Array.mk [(115 : UInt8), (47 : UInt8)])) ++ (std.sof (std.ints [(Value.int IntKind.u8 (std.wrap IntKind.u8 ((97 : Int) + (d9.i))))])))), (Value.string (t.rrcd (1073741824 : Int) (1 : Int)))]))])) * 32) ≤ 140737488355328) ∧ ((((-9223372036854775808 : Int) ≤ ((d9.i) + (1 : Int))) ∧ (((d9.i) + (1 : Int)) ≤ (9223372036854775807 : Int))) ∧ (∃ (d15 : CatB), (([(Filler.dl (d15.r)), (Filler.dl xs), (Filler.val (Value.int IntKind.i64 (d15.n))), (Filler.val (Value.int IntKind.i64 (d15.i)))] = [(Filler.dl ((d9.r) ++ [(Value.agg (Array.mk [(Value.string ((ByteArray.mk (Array.mk [(115 : UInt8), (47 : UInt8)])) ++ (std.sof (std.ints [(Value.int IntKind.u8 (std.wrap IntKind.u8 ((97 : Int) + (d9.i))))])))), (Value.string (t.rrcd (1073741824 : Int) (1 : Int)))]))])), (Filler.dl xs), (Filler.val (Value.int IntKind.i64 (d9.n))), (Filler.val (Value.int IntKind.i64 ((d9.i) + (1 : Int))))]) ∧ ((Nat.le (Nat.succ (m d15)) (m d9)) ∧ (I d15)))))))))) ∧ ((((std.rem (eI xs (Int.toNat (d9.i))) (17 : Int)) == (16 : Int)) = false) → ((((-9223372036854775808 : Int) ≤ ((97 : Int) + (d9.i))) ∧ (((97 : Int) + (d9.i)) ≤ (9223372036854775807 : Int))) ∧ ((((std.slen (ByteArray.mk (Array.mk [(115 : UInt8), (47 : UInt8)]))) + (std.slen (std.sof (std.ints [(Value.int IntKind.u8 (std.wrap IntKind.u8 ((97 : Int) + (d9.i))))])))) ≤ 9223372036854775807) ∧ ((((List.length ((d9.r) ++ [(Value.agg (Array.mk [(Value.string ((ByteArray.mk (Array.mk [(115 : UInt8), (47 : UInt8)])) ++ (std.sof (std.ints [(Value.int IntKind.u8 (std.wrap IntKind.u8 ((97 : Int) + (d9.i))))])))), (Value.string (ByteArray.mk (Array.mk [(120 : UInt8)])))]))])) * 32) ≤ 140737488355328) ∧ ((((-9223372036854775808 : Int) ≤ ((d9.i) + (1 : Int))) ∧ (((d9.i) + (1 : Int)) ≤ (9223372036854775807 : Int))) ∧ (∃ (d15 : CatB), (([(Filler.dl (d15.r)), (Filler.dl xs), (Filler.val (Value.int IntKind.i64 (d15.n))), (Filler.val (Value.int IntKind.i64 (d15.i)))] = [(Filler.dl ((d9.r) ++ [(Value.agg (Array.mk [(Value.string ((ByteArray.mk (Array.mk [(115 : UInt8), (47 : UInt8)])) ++ (std.sof (std.ints [(Value.int IntKind.u8 (std.wrap IntKind.u8 ((97 : Int) + (d9.i))))])))), (Value.string (ByteArray.mk (Array.mk [(120 : UInt8)])))]))])), (Filler.dl xs), (Filler.val (Value.int IntKind.i64 (d9.n))), (Filler.val (Value.int IntKind.i64 ((d9.i) + (1 : Int))))]) ∧ ((Nat.le (Nat.succ (m d15)) (m d9)) ∧ (I d15)))))))))))) ∧ ((((std.rem (eI xs (Int.toNat (d9.i))) (11 : Int)) == (10 : Int)) = false) → (((0 : Int) < (17 : Int)) ∧ (((((std.rem (eI xs (Int.toNat (d9.i))) (17 : Int)) == (16 : Int)) = true) → (((((-9223372036854775808 : Int) ≤ (1073741824 : Int)) ∧ ((1073741824 : Int) ≤ (9223372036854775807 : Int))) ∧ (((-9223372036854775808 : Int) ≤ (1 : Int)) ∧ ((1 : Int) ≤ (9223372036854775807 : Int)))) ∧ ((((-9223372036854775808 : Int) ≤ ((97 : Int) + (d9.i))) ∧ (((97 : Int) + (d9.i)) ≤ (9223372036854775807 : Int))) ∧ ((((std.slen (ByteArray.mk (Array.mk [(115 : UInt8), (47 : UInt8)]))) + (std.slen (std.sof (std.ints [(Value.int IntKind.u8 (std.wrap IntKind.u8 ((97 : Int) + (d9.i))))])))) ≤ 9223372036854775807) ∧ ((((List.length ((d9.r) ++ [(Value.agg (Array.mk [(Value.string ((ByteArray.mk (Array.mk [(115 : UInt8), (47 : UInt8)])) ++ (std.sof (std.ints [(Value.int IntKind.u8 (std.wrap IntKind.u8 ((97 : Int) + (d9.i))))])))), (Value.string (t.rrcd (1073741824 : Int) (1 : Int)))]))])) * 32) ≤ 140737488355328) ∧ ((((-9223372036854775808 : Int) ≤ ((d9.i) + (1 : Int))) ∧ (((d9.i) + (1 : Int)) ≤ (9223372036854775807 : Int))) ∧ (∃ (d15 : CatB), (([(Filler.dl (d15.r)), (Filler.dl xs), (Filler.val (Value.int IntKind.i64 (d15.n))), (Filler.val (Value.int IntKind.i64 (d15.i)))] = [(Filler.dl ((d9.r) ++ [(Value.agg (Array.mk [(Value.string ((ByteArray.mk (Array.mk [(115 : UInt8), (47 : UInt8)])) ++ (std.sof (std.ints [(Value.int IntKind.u8 (std.wrap IntKind.u8 ((97 : Int) + (d9.i))))])))), (Value.string (t.rrcd (1073741824 : Int) (1 : Int)))]))])), (Filler.dl xs), (Filler.val (Value.int IntKind.i64 (d9.n))), (Filler.val (Value.int IntKind.i64 ((d9.i) + (1 : Int))))]) ∧ ((Nat.le (Nat.succ (m d15)) (m d9)) ∧ (I d15)))))))))) ∧ ((((std.rem (eI xs (Int.toNat (d9.i))) (17 : Int)) == (16 : Int)) = false) → ((((-9223372036854775808 : Int) ≤ ((97 : Int) + (d9.i))) ∧ (((97 : Int) + (d9.i)) ≤ (9223372036854775807 : Int))) ∧ ((((std.slen (ByteArray.mk (Array.mk [(115 : UInt8), (47 : UInt8)]))) + (std.slen (std.sof (std.ints [(Value.int IntKind.u8 (std.wrap IntKind.u8 ((97 : Int) + (d9.i))))])))) ≤ 9223372036854775807) ∧ ((((List.length ((d9.r) ++ [(Value.agg (Array.mk [(Value.string ((ByteArray.mk (Array.mk [(115 : UInt8), (47 : UInt8)])) ++ (std.sof (std.ints [(Value.int IntKind.u8 (std.wrap IntKind.u8 ((97 : Int) + (d9.i))))])))), (Value.string (t.rrcd (g.wi (eI xs (Int.toNat (d9.i))) (0 : Int) (60 : Int)) (g.wi (std.quo (eI xs (Int.toNat (d9.i))) (8 : Int)) (0 : Int) (20 : Int))))]))])) * 32) ≤ 140737488355328) ∧ ((((-9223372036854775808 : Int) ≤ ((d9.i) + (1 : Int))) ∧ (((d9.i) + (1 : Int)) ≤ (9223372036854775807 : Int))) ∧ (∃ (d15 : CatB), (([(Filler.dl (d15.r)), (Filler.dl xs), (Filler.val (Value.int IntKind.i64 (d15.n))), (Filler.val (Value.int IntKind.i64 (d15.i)))] = [(Filler.dl ((d9.r) ++ [(Value.agg (Array.mk [(Value.string ((ByteArray.mk (Array.mk [(115 : UInt8), (47 : UInt8)])) ++ (std.sof (std.ints [(Value.int IntKind.u8 (std.wrap IntKind.u8 ((97 : Int) + (d9.i))))])))), (Value.string (t.rrcd (g.wi (eI xs (Int.toNat (d9.i))) (0 : Int) (60 : Int)) (g.wi (std.quo (eI xs (Int.toNat (d9.i))) (8 : Int)) (0 : Int) (20 : Int))))]))])), (Filler.dl xs), (Filler.val (Value.int IntKind.i64 (d9.n))), (Filler.val (Value.int IntKind.i64 ((d9.i) + (1 : Int))))]) ∧ ((Nat.le (Nat.succ (m d15)) (m d9)) ∧ (I d15))))))))))))))))))) ∧ (((decide ((d9.i) < (4 : Int))) = false) → ((((-9223372036854775808 : Int) ≤ ((d9.i) + (1 : Int))) ∧ (((d9.i) + (1 : Int)) ≤ (9223372036854775807 : Int))) ∧ (∃ (d13 : CatB), (([(Filler.dl (d13.r)), (Filler.dl xs), (Filler.val (Value.int IntKind.i64 (d13.n))), (Filler.val (Value.int IntKind.i64 (d13.i)))] = [(Filler.dl (d9.r)), (Filler.dl xs), (Filler.val (Value.int IntKind.i64 (d9.n))), (Filler.val (Value.int IntKind.i64 ((d9.i) + (1 : Int))))]) ∧ ((Nat.le (Nat.succ (m d13)) (m d9)) ∧ (I d13))))))))) ∧ (((decide ((d9.i) < (d9.n))) = false) → ([(dsl zP (d9.r))] = [(dsl zP (u.recs xs))])))))))) := by kernel_rfl
end Go.Proofs.Ytmhfnbbamoadgaa
end
section
namespace Go.Proofs.Ytmhfnbbamoadgaa
open Go.RowKit Go.Abs Go
set_option maxRecDepth 100000
def idxGo (xs : List Value) : Nat → Nat → Int
  | _, 0 => -1
  | i, k + 1 => if isF (kP xs i) then idxGo xs (i + 1) k else i
def idxF (xs : List Value) : Int := idxGo xs 0 xs.length
def stkUp (xs : List Value) : Nat → Bool
  | 0 => true
  | j + 1 => stkUp xs j && isF (kP xs j)
theorem up_false {xs : List Value} : ∀ (k i : Nat), stkUp xs i = false → stkUp xs (i + k) = false
  | 0, _, h => h
  | k + 1, i, h => by
    have := up_false (xs := xs) k i h
    show (stkUp xs (i + k) && _) = false
    rw [this]; rfl
theorem idx_go (xs : List Value) : ∀ (k i : Nat), stkUp xs i = true → decide (0 ≤ idxGo xs i k) = !stkUp xs (i + k)
  | 0, i, h => by rw [show i + 0 = i from rfl, h]; rfl
  | k + 1, i, h => by
    unfold idxGo
    split
    · rename_i h1
      rw [idx_go xs k (i + 1) (by show (stkUp xs i && isF (kP xs i)) = true; rw [h, h1]; rfl), show i + 1 + k = i + (k + 1) by omega]
    · rename_i h1
      have h1 : isF (kP xs i) = false := by simpa using h1
      have := up_false (xs := xs) k (i + 1) (by show (stkUp xs i && isF (kP xs i)) = false; rw [h, h1]; rfl)
      rw [show i + (k + 1) = i + 1 + k by omega, this, decide_eq_true (by omega)]; rfl
theorem idx_up (xs : List Value) : decide (0 ≤ idxF xs) = !stkUp xs xs.length := by
  have := idx_go xs xs.length 0 rfl
  rwa [Nat.zero_add] at this
/-- affiantkeep.Records. -/
noncomputable def recKey (i : Int) : ByteArray := (⟨#[115, 47]⟩ : ByteArray) ++ std.sof (std.ints [Value.int .u8 (std.wrap .u8 (97 + i))])
noncomputable def recVal (n : Int) : ByteArray := if std.rem n 11 == 10 then (if std.rem n 17 == 16 then recB 1073741824 1 else ⟨#[120]⟩) else if std.rem n 17 == 16 then recB 1073741824 1 else recB (kvF.wi n 0 60) (kvF.wi (std.quo n 8) 0 20)
noncomputable def recL (xs : List Value) : Nat → List Value
  | 0 => []
  | i + 1 => if i < 4 then recL xs i ++ [prV (recKey i) (recVal (eI xs i))] else recL xs i
theorem recL_len (xs : List Value) : ∀ i, (recL xs i).length ≤ 4 ∧ (recL xs i).length ≤ i
  | 0 => ⟨Nat.zero_le _, Nat.zero_le _⟩
  | i + 1 => by
    have := recL_len xs i
    unfold recL
    split
    · rw [List.length_append]; show _ + 1 ≤ 4 ∧ _ + 1 ≤ i + 1; omega
    · omega
theorem recVal_len (n : Int) : lenB (recVal n) ≤ 24 := by
  unfold recVal
  split
  · split
    · have := recB_len 1073741824 1; omega
    · decide
  · split
    · have := recB_len 1073741824 1; omega
    · have := recB_len (kvF.wi n 0 60) (kvF.wi (std.quo n 8) 0 20); omega
theorem recL_vals (xs : List Value) : ∀ i, ∀ x ∈ recL xs i, lenB (valV x) ≤ 24
  | 0, x, h => by cases h
  | i + 1, x, h => by
    unfold recL at h
    split at h
    · rcases List.mem_append.1 h with h | h
      · exact recL_vals xs i x h
      · rw [List.mem_singleton.1 h]; exact recVal_len _
    · exact recL_vals xs i x h
noncomputable def teF (mh kh : Int) (kp : List Value) : Int := if rightF mayF kp then (if decide (0 ≤ idxF kp) then 1 else if decide (kh < std.imax mh 1) then 8 else if bokF kp then 0 else 10) else 1
noncomputable def miF : MiF where
  idx := idxF
  recs := fun xs => recL xs xs.length
  te := teF
  th := fun mh kh kp => if teF mh kh kp = 0 then kh else mh
  tb := fun mh mb kh kp => if teF mh kh kp = 0 then bckF kp else mb
  tr := fun mh mr kh kp => if teF mh kh kp = 0 then kp else mr
  tl := fun mh ml kh kp => if teF mh kh kp = 0 then false else if teF mh kh kp = 10 then true else ml
def idxI (xs : List Value) (d : NIL) : Prop := d.n = (xs.length : Int) ∧ ∃ i : Nat, d.i = i ∧ i ≤ xs.length ∧ idxF xs = idxGo xs i (xs.length - i)
theorem idx_run (xs : List Value) (hx : xs.length ≤ 1000000) : runP std noCon 40 (idxLs xs (idxI xs) fun d => (d.n - d.i).toNat) (idxP std miF) 56 Try.f56 (xs, (), ()) := by
  rw [idx_vc]
  refine ⟨{ n := ((List.length xs) : Int), i := (0 : Int) }, rfl, ⟨rfl, 0, rfl, Nat.zero_le _, rfl⟩, fun ⟨n, i⟩ ⟨hn, i, hi, hle, hr⟩ => ?_⟩
  dsimp only at hn hi
  subst hn hi
  dsimp only
  refine ⟨fun h2 => ?_, fun h7 => ?_⟩
  · have h2 := of_decide_eq_true h2
    have hi : i < xs.length := by omega
    rw [Int.toNat_natCast]
    rw [show xs.length - i = (xs.length - (i + 1)) + 1 by omega] at hr
    have hr : idxF xs = if isF (kP xs i) then idxGo xs (i + 1) (xs.length - (i + 1)) else (i : Int) := hr
    have no : isF (kP xs i) = false → [Value.int .i64 (i : Int)] = [Value.int .i64 (idxF xs)] := fun h => by rw [hr, h]; rfl
    refine ⟨by omega, ⟨fun h3 => ⟨⟨⟨by omega, of_decide_eq_true h3⟩, trivial⟩, ⟨fun h4 => ⟨by omega, ⟨{ n := (xs.length : Int), i := ((i : Int) + (1 : Int)) }, rfl, ?_, ?_⟩⟩, fun h5 => no ?_⟩⟩, fun h6 => no ?_⟩⟩
    · show ((xs.length : Int) - ((i : Int) + 1)).toNat + 1 ≤ ((xs.length : Int) - (i : Int)).toNat
      omega
    · refine ⟨rfl, i + 1, by show (i : Int) + 1 = _; omega, hi, ?_⟩
      have h3 : decide ((2 : Int) ≤ (lenB (kP xs i) : Int)) = true := h3
      have h4 : eqB (std.ssub (kP xs i) 0 2) sB = true := h4
      have : isF (kP xs i) = true := by unfold isF; rw [h3, h4]; rfl
      rw [hr, this]; rfl
    · have h5 : eqB (std.ssub (kP xs i) 0 2) sB = false := h5
      unfold isF; rw [h5]; simp
    · have h6 : decide ((2 : Int) ≤ (lenB (kP xs i) : Int)) = false := h6
      unfold isF; rw [h6]; rfl
  · have h7 := of_decide_eq_false h7
    have hi : i = xs.length := by omega
    subst hi
    rw [Nat.sub_self] at hr
    show _ = [Value.int .i64 (idxF xs)]
    rw [hr]; rfl
theorem idx_ok : PFOk Try.prog 56 (idxP std miF) :=
  pf_ok (LS := fun d => idxLs d.1 (idxI d.1) fun d => (d.n - d.i).toNat) Try.progOk (noCon_ok _) (inCallF_ok 60) (idxP std miF) Try.func56 (show _ = some (bodyS Try.prog 56) by kernel_rfl) fun d hd => idx_run d.1 hd
theorem cloneQ_run (xs : List Value) (h0 : xs ≠ []) (hx : xs.length ≤ 1000000) : runP std noCon 40 noL (cloneQ std) 34 Try.f34 (xs, ()) := by
  rw [cloneQ_vc]
  exact ⟨List.length_pos_iff.2 h0, by omega, rfl⟩
theorem cloneQ_ok : PFOk Try.prog 34 (cloneQ std) := by
  refine ⟨fun {zf base w} hbase hz0 {d} hpre {xs} hraw {args'} hl => ?_⟩
  obtain ⟨ys, u⟩ := d
  by_cases hy : ys = []
  · subst hy
    have hx : xs = [dsl zP []] := by
      have e : rawVs deep0 (cloneQ std).zs ((cloneQ std).args (([] : List Value), ())) = some [dsl zP []] := rfl
      rw [show rawVs deep0 (cloneQ std).zs ((cloneQ std).args (([] : List Value), u)) = some [dsl zP []] from e] at hraw
      exact (Option.some.inj hraw).symm
    subst hx
    obtain ⟨v, l, e, r, hl⟩ := hl.inv_cons
    have := hl.inv_nil; subst this
    have hv : ∃ a k, v = .slice a 0 k := by
      rcases r with ⟨_, r⟩ | ⟨_, _, e, _⟩
      · rcases r.inv with ⟨_, a, k, e⟩ | ⟨c, o, k, val, e, _⟩
        · exact ⟨a, k, e⟩
        · exact ⟨_, _, e⟩
      · simp [dsl] at e
    obtain ⟨a, k, rfl⟩ := hv
    have : args' = #[.slice a 0 k] := Array.toList_inj.1 e
    subst this
    obtain ⟨c, hb⟩ : ∃ c, Try.f34.body = some c := ⟨_, rfl⟩
    have hn := Try.progOk.name Try.func34
    refine .inr ⟨by simp [callFunc, Try.func34, hn, hb], ?_⟩
    have fin : ∀ {a' : Option Addr} {w' : World}, Below w.heap.size w w' → ∃ v', Ending.returned (.slice a' 0 0) = .returned v' ∧ ∃ z2 tk, POut zf base w (cloneQ std) (([] : List Value), u) v' w' z2 tk := fun {a' w'} hbl => by
      refine ⟨_, rfl, zf, none, hbl, fun _ _ _ h => h, fun _ _ _ h => .inl h, fun c i a h => ?_, fun {μ b} hz ht => ?_, (fun h => by cases h), fun p h => by cases h⟩
      · obtain ⟨arr', e', fr', h2, h3⟩ := hz0 c i a h
        exact ⟨arr', e', fr', (hbl.block c (Array.getElem?_eq_some_iff.1 h2).1).trans h2, h3⟩
      · show VR μ (dsl zP []) _
        exact .zero (.deep .nil)
    cases a with
    | none =>
      refine (clone_none 0 k w).mono ?_
      rintro en w' ⟨rfl, rfl⟩
      exact fin (Below.refl _ _)
    | some a =>
      refine (clone_some a k w).mono ?_
      rintro en w' ⟨rfl, hbl, _⟩
      exact fin hbl
  · exact pf_out (LS := noL) Try.progOk (noCon_ok _) (inCallF_ok 60) (cloneQ std) Try.func34 (show _ = some (bodyS Try.prog 34) by kernel_rfl) (n := 40) (cloneQ_run ys hy hpre) hbase hz0 hraw hl
theorem take_run (kq kh : Int) (kp : List Value) (mh mb : Int) (mr : List Value) (ml : Bool) (hk : kp.length ≤ 1000000) : runW std (takeCon std kvF stF miF) 60 noL (takeO std miF) 9 Try.f9 (kq, kh, kp, mh, mb, mr, ml, ()) := by
  rw [take_vc]
  have key : ∀ e, teF mh kh kp = e → [(Filler.val (Value.int IntKind.i64 (miF.te mh kh kp))), (Filler.val (Value.int IntKind.i64 (miF.th mh kh kp))), (Filler.val (Value.int IntKind.i64 (miF.tb mh mb kh kp))), (Filler.dl (miF.tr mh mr kh kp)), (Filler.val (Value.bool (miF.tl mh ml kh kp)))] =
      [(Filler.val (Value.int IntKind.i64 e)), (Filler.val (Value.int IntKind.i64 (if e = 0 then kh else mh))), (Filler.val (Value.int IntKind.i64 (if e = 0 then bckF kp else mb))), (Filler.dl (if e = 0 then kp else mr)), (Filler.val (Value.bool (if e = 0 then false else if e = 10 then true else ml)))] := fun e he => by
    subst he; rfl
  refine ⟨hk, ⟨fun h1 => ⟨hk, ⟨fun h2 => key 1 ?_, fun h3 => ⟨fun h4 => key 8 ?_, fun h5 => ⟨⟨hk, fun i15 => fun h6 => ?_⟩, ⟨fun h7 => ⟨hk, ⟨⟨rfl, rfl⟩, key 0 ?_⟩⟩, fun h8 => key 10 ?_⟩⟩⟩⟩⟩, fun h9 => key 1 ?_⟩⟩
  · have h1 : rightF mayF kp = true := h1
    have h2 : decide (0 ≤ idxF kp) = true := h2
    unfold teF; rw [h1, h2]; rfl
  · have h1 : rightF mayF kp = true := h1
    have h3 : decide (0 ≤ idxF kp) = false := h3
    unfold teF; rw [h1, h3, h4]; rfl
  · have h1 : rightF mayF kp = true := h1
    have hm := ((right_iff kp).1 h1).1 _ (List.getElem_mem h6)
    show lenB (vP kp i15) ≤ 4000000
    rw [vP_get h6]
    unfold mayF at hm
    simp only [Bool.and_eq_true, decide_eq_true_eq] at hm
    omega
  · have h1 : rightF mayF kp = true := h1
    have h3 : decide (0 ≤ idxF kp) = false := h3
    have h7 : bokF kp = true := h7
    unfold teF; rw [h1, h3, h5, h7]; rfl
  · have h1 : rightF mayF kp = true := h1
    have h3 : decide (0 ≤ idxF kp) = false := h3
    have h8 : bokF kp = false := h8
    unfold teF; rw [h1, h3, h5, h8]; rfl
  · have h9 : rightF mayF kp = false := h9
    unfold teF; rw [h9]; rfl
theorem takeCon_ok : ConOk Try.prog (takeCon std kvF stF miF) := draw_ok (conL_ok fun x hx => by
  simp only [List.mem_cons, List.not_mem_nil, or_false] at hx
  rcases hx with rfl | rfl | rfl
  · exact pcon_ok right_ok
  · exact pcon_ok idx_ok
  · exact pcon_ok bck_ok) fun x hx => by rw [List.mem_singleton.1 hx]; exact dcon_ok rfl cloneQ_ok
theorem take_ok : OFOk Try.prog 9 (takeO std miF) :=
  of_ok (LS := fun _ => noL) Try.progOk takeCon_ok (inCallF_ok 60) (takeO std miF) Try.func9 (show _ = some (bodyS Try.prog 9) by kernel_rfl) (by decide) rfl fun d hd => take_run d.1 d.2.1 d.2.2.1 d.2.2.2.1 d.2.2.2.2.1 d.2.2.2.2.2.1 d.2.2.2.2.2.2.1 hd
theorem copyCon_ok : ConOk Try.prog (copyCon std) := conL_ok fun x hx => by rw [List.mem_singleton.1 hx]; exact pcon_ok cloneQ_ok
theorem copy_run (mh mb : Int) (mr : List Value) (ml : Bool) (hk : mr.length ≤ 1000000) : runW std (copyCon std) 60 noL (copyO std) 16 Try.f16 (mh, mb, mr, ml, ()) := by
  rw [copy_vc]; exact ⟨hk, rfl⟩
theorem copy_ok : OFOk Try.prog 16 (copyO std) :=
  of_ok (LS := fun _ => noL) Try.progOk copyCon_ok (inCallF_ok 60) (copyO std) Try.func16 (show _ = some (bodyS Try.prog 16) by kernel_rfl) (by decide) rfl fun d hd => copy_run d.1 d.2.1 d.2.2.1 d.2.2.2.1 hd
theorem recO_run (mh mb : Int) (mr : List Value) (ml : Bool) (hk : mr.length ≤ 1000000) : runW std (copyCon std) 60 noL (recO std) 14 Try.f14 (mh, mb, mr, ml, ()) := by
  rw [recO_vc]; exact ⟨hk, rfl⟩
theorem recO_ok : OFOk Try.prog 14 (recO std) :=
  of_ok (LS := fun _ => noL) Try.progOk copyCon_ok (inCallF_ok 60) (recO std) Try.func14 (show _ = some (bodyS Try.prog 14) by kernel_rfl) (by decide) rfl fun d hd => recO_run d.1 d.2.1 d.2.2.1 d.2.2.2.1 hd
theorem quo8 {n : Int} (h : -9223372036854775808 ≤ n ∧ n ≤ 9223372036854775807) : -9223372036854775808 ≤ std.quo n 8 ∧ std.quo n 8 ≤ 9223372036854775807 := by
  have e : std.quo n 8 = n.tdiv 8 := rfl
  rw [e]
  by_cases h0 : 0 ≤ n
  · rw [Int.tdiv_eq_ediv_of_nonneg h0]; omega
  · have : n.tdiv 8 = -((-n).tdiv 8) := by rw [Int.neg_tdiv]; omega
    rw [this, Int.tdiv_eq_ediv_of_nonneg (by omega)]; omega
def recsI (xs : List Value) (d : CatB) : Prop := d.n = (xs.length : Int) ∧ ∃ i : Nat, d.i = i ∧ i ≤ xs.length ∧ d.r = recL xs i
theorem recs_run (xs : List Value) (hn : xs.length ≤ 9223372036854775807) (hx : IntsOk xs) : Holds (runP std (recsCon std kvF stF) 60 (recsLs xs (recsI xs) fun d => (d.n - d.i).toNat) (recsP std miF) 17 Try.f17 (xs, ())) := by
  constructor
  rw [recs_vc]
  refine ⟨{ r := [], n := ((List.length xs) : Int), i := (0 : Int) }, rfl, ⟨rfl, 0, rfl, Nat.zero_le _, rfl⟩, fun ⟨r, n, i⟩ ⟨hnn, i, hi, hle, hr⟩ => ?_⟩
  dsimp only at hnn hi hr
  subst hnn hi hr
  dsimp only
  refine ⟨fun h2 => ?_, fun h11 => ?_⟩
  · have h2 := of_decide_eq_true h2
    have hi : i < xs.length := by omega
    rw [Int.toNat_natCast]
    have hxi := hx i hi
    have hl := recL_len xs i
    have hms : Nat.le (Nat.succ (((xs.length : Int) - ((i : Int) + 1)).toNat)) ((xs.length : Int) - (i : Int)).toNat := by
      show ((xs.length : Int) - ((i : Int) + 1)).toNat + 1 ≤ ((xs.length : Int) - (i : Int)).toNat
      omega
    have w60 := wi_in2 (n := eI xs i) (lo := 0) (hi := 60) (by omega)
    have w20 := wi_in2 (n := std.quo (eI xs i) 8) (lo := 0) (hi := 20) (by omega)
    refine ⟨by omega, ⟨fun h3 => ?_, fun h10 => ⟨by omega, ⟨{ r := recL xs i, n := (xs.length : Int), i := ((i : Int) + 1) }, rfl, hms, ⟨rfl, i + 1, by show (i : Int) + 1 = _; omega, hi, ?_⟩⟩⟩⟩⟩
    · have h3 : (i : Int) < 4 := of_decide_eq_true h3
      have tl : ∀ {v : ByteArray} {P : List Filler → Prop}, recVal (eI xs i) = v → (-9223372036854775808 ≤ (97 : Int) + i ∧ (97 : Int) + i ≤ 9223372036854775807) ∧ std.slen (⟨#[115, 47]⟩ : ByteArray) + std.slen (std.sof (std.ints [Value.int .u8 (std.wrap .u8 (97 + (i : Int)))])) ≤ 9223372036854775807 ∧
          (recL xs i ++ [Value.agg #[.string ((⟨#[115, 47]⟩ : ByteArray) ++ std.sof (std.ints [Value.int .u8 (std.wrap .u8 (97 + (i : Int)))])), .string v]]).length * 32 ≤ 140737488355328 ∧ (-9223372036854775808 ≤ (i : Int) + 1 ∧ (i : Int) + 1 ≤ 9223372036854775807) ∧
          ∃ d : CatB, [Filler.dl d.r, .dl xs, .val (.int .i64 d.n), .val (.int .i64 d.i)] = [Filler.dl (recL xs i ++ [Value.agg #[.string ((⟨#[115, 47]⟩ : ByteArray) ++ std.sof (std.ints [Value.int .u8 (std.wrap .u8 (97 + (i : Int)))])), .string v]]), .dl xs, .val (.int .i64 (xs.length : Int)), .val (.int .i64 ((i : Int) + 1))] ∧ Nat.le (Nat.succ ((d.n - d.i).toNat)) ((xs.length : Int) - (i : Int)).toNat ∧ recsI xs d := fun {v P} hv => by
        subst hv
        refine ⟨by omega, ?_, ?_, by omega, ⟨{ r := recL xs (i + 1), n := (xs.length : Int), i := ((i : Int) + 1) }, ?_, hms, rfl, i + 1, by show (i : Int) + 1 = _; omega, hi, rfl⟩⟩
        · show 2 + 1 ≤ _; omega
        · rw [List.length_append]
          show ((recL xs i).length + 1) * 32 ≤ _
          omega
        · have : recL xs (i + 1) = recL xs i ++ [prV (recKey i) (recVal (eI xs i))] := by
            show (if i < 4 then _ else _) = _
            rw [if_pos (by omega)]
          show [Filler.dl (recL xs (i + 1)), _, _, _] = _
          rw [this]; rfl
      have rp : ∀ a b : Int, 0 ≤ a → a ≤ 1073741824 → 0 ≤ b → b ≤ 1073741824 → (-9223372036854775808 ≤ a ∧ a ≤ 9223372036854775807) ∧ (-9223372036854775808 ≤ b ∧ b ≤ 9223372036854775807) := fun a b _ _ _ _ => by omega
      have q8 := quo8 hxi
      refine ⟨⟨hxi, by omega, by omega, by omega⟩, ⟨⟨by omega, hxi⟩, ⟨⟨q8, by omega, by omega, by omega⟩, ⟨rp _ _ w60.1 (by omega) w20.1 (by omega), ⟨by omega, ⟨fun h4 => ⟨by omega, ⟨fun h5 => ⟨by omega, tl (P := fun _ => True) ?_⟩, fun h6 => tl (P := fun _ => True) ?_⟩⟩, fun h7 => ⟨by omega, ⟨fun h8 => ⟨by omega, tl (P := fun _ => True) ?_⟩, fun h9 => tl (P := fun _ => True) ?_⟩⟩⟩⟩⟩⟩⟩⟩
      · show recVal (eI xs i) = recB 1073741824 1
        unfold recVal; rw [h4, h5]; rfl
      · unfold recVal; rw [h4, h6]; rfl
      · show recVal (eI xs i) = recB 1073741824 1
        unfold recVal; rw [h7, h8]; rfl
      · show recVal (eI xs i) = recB _ _
        unfold recVal; rw [h7, h9]; rfl
    · have h10 : ¬ (i : Int) < 4 := of_decide_eq_false h10
      show recL xs i = if i < 4 then _ else _
      rw [if_neg (by omega)]
  · have h11 := of_decide_eq_false h11
    have hi : i = xs.length := by omega
    subst hi
    rfl
theorem recsCon_ok : ConOk Try.prog (recsCon std kvF stF) := conL_ok fun x hx => by
  simp only [List.mem_cons, List.not_mem_nil, or_false] at hx
  rcases hx with rfl | rfl
  · exact pcon_ok wi_ok
  · exact pcon_ok rrcd_ok
theorem recs_ok : PFOk Try.prog 17 (recsP std miF) :=
  pf_ok (LS := fun d => recsLs d.1 (recsI d.1) fun d => (d.n - d.i).toNat) Try.progOk recsCon_ok (inCallF_ok 60) (recsP std miF) Try.func17 (show _ = some (bodyS Try.prog 17) by kernel_rfl) fun d hd => by
    obtain ⟨h⟩ := recs_run d.1 hd.1 hd.2
    exact h
end Go.Proofs.Ytmhfnbbamoadgaa
end
section
namespace Go.Proofs.Ytmhfnbbamoadgaa
open Go.Abs Go
def mpIn (g : KvF) (t : StF) (u : MiF) (hs : List Value) (rows : List Value) (raw : List Value) (I : MpL → Prop) (m : MpL → Nat) (J : MpK → Prop) (q : MpK → Nat) (d13 : MpL) (kp : List Value) (ri : Bool) : Prop :=
  (∃ (d21 : MpK), (([(Filler.dl hs), (Filler.dl rows), (Filler.dl raw), (Filler.val (Value.int IntKind.i64 (d21.h))), (Filler.val (Value.int IntKind.i64 (d21.b))), (Filler.val (Value.bool (d21.hal))), (Filler.dl (d21.rc)), (Filler.val (Value.int IntKind.i64 (d21.i))), (Filler.val (Value.bool (d21.ri))), (Filler.dl (d21.kp)), (Filler.val (Value.int IntKind.i64 (d21.n))), (Filler.val (Value.int IntKind.i64 (d21.j))), (Filler.val (Value.int IntKind.i64 (d21.mh))), (Filler.val (Value.int IntKind.i64 (d21.mb))), (Filler.dl (d21.mr)), (Filler.val (Value.bool (d21.ml))), (Filler.val (Value.int IntKind.i64 (d21.kq))), (Filler.val (Value.int IntKind.i64 (d21.kh))), (Filler.dl (d21.kp))] = [(Filler.dl hs), (Filler.dl rows), (Filler.dl raw), (Filler.val (Value.int IntKind.i64 (d13.h))), (Filler.val (Value.int IntKind.i64 (d13.b))), (Filler.val (Value.bool (d13.hal))), (Filler.dl (d13.rc)), (Filler.val (Value.int IntKind.i64 (d13.i))), (Filler.val (Value.bool ri)), (Filler.dl kp), (Filler.val (Value.int IntKind.i64 ((List.length kp) : Int))), (Filler.val (Value.int IntKind.i64 (0 : Int))), (Filler.val (Value.int IntKind.i64 (d13.mh))), (Filler.val (Value.int IntKind.i64 (d13.mb))), (Filler.dl (d13.mr)), (Filler.val (Value.bool (d13.ml))), (Filler.val (Value.int IntKind.i64 (1 : Int))), (Filler.val (Value.int IntKind.i64 (g.wi (eI hs (Int.toNat (d13.i))) (0 : Int) (12 : Int)))), (Filler.dl kp)]) ∧ ((J d21) ∧ (∀ (d22 : MpK), ((J d22) → (([(Value.int IntKind.i64 (d22.i))] = [(Value.int IntKind.i64 (d21.i))]) → ((((decide ((d22.j) < (d22.n))) = true) → ((((0 : Int) ≤ (d22.j)) ∧ ((d22.j) < ((List.length (d22.kp)) : Int))) ∧ ((((d22.ri) = true) → ((((decide ((2 : Int) ≤ ((std.slen (kP (d22.kp) (Int.toNat (d22.j)))) : Int))) = true) → (((((0 : Int) ≤ (2 : Int)) ∧ ((2 : Int) ≤ ((std.slen (kP (d22.kp) (Int.toNat (d22.j)))) : Int))) ∧ True) ∧ ((((std.seq (std.ssub (kP (d22.kp) (Int.toNat (d22.j))) 0 (Int.toNat (2 : Int))) (ByteArray.mk (Array.mk [(115 : UInt8), (47 : UInt8)]))) = true) → ((((-9223372036854775808 : Int) ≤ ((d22.j) + (1 : Int))) ∧ (((d22.j) + (1 : Int)) ≤ (9223372036854775807 : Int))) ∧ (∃ (d29 : MpK), (([(Filler.dl hs), (Filler.dl rows), (Filler.dl raw), (Filler.val (Value.int IntKind.i64 (d29.h))), (Filler.val (Value.int IntKind.i64 (d29.b))), (Filler.val (Value.bool (d29.hal))), (Filler.dl (d29.rc)), (Filler.val (Value.int IntKind.i64 (d29.i))), (Filler.val (Value.bool (d29.ri))), (Filler.dl (d29.kp)), (Filler.val (Value.int IntKind.i64 (d29.n))), (Filler.val (Value.int IntKind.i64 (d29.j))), (Filler.val (Value.int IntKind.i64 (d29.mh))), (Filler.val (Value.int IntKind.i64 (d29.mb))), (Filler.dl (d29.mr)), (Filler.val (Value.bool (d29.ml))), (Filler.val (Value.int IntKind.i64 (d29.kq))), (Filler.val (Value.int IntKind.i64 (d29.kh))), (Filler.dl (d29.kp))] = [(Filler.dl hs), (Filler.dl rows), (Filler.dl raw), (Filler.val (Value.int IntKind.i64 (d22.h))), (Filler.val (Value.int IntKind.i64 (d22.b))), (Filler.val (Value.bool (d22.hal))), (Filler.dl (d22.rc)), (Filler.val (Value.int IntKind.i64 (d22.i))), (Filler.val (Value.bool true)), (Filler.dl (d22.kp)), (Filler.val (Value.int IntKind.i64 (d22.n))), (Filler.val (Value.int IntKind.i64 ((d22.j) + (1 : Int)))), (Filler.val (Value.int IntKind.i64 (d22.mh))), (Filler.val (Value.int IntKind.i64 (d22.mb))), (Filler.dl (d22.mr)), (Filler.val (Value.bool (d22.ml))), (Filler.val (Value.int IntKind.i64 (d22.kq))), (Filler.val (Value.int IntKind.i64 (d22.kh))), (Filler.dl (d22.kp))]) ∧ ((Nat.le (Nat.succ (q d29)) (q d22)) ∧ (([(Value.int IntKind.i64 (d29.i))] = [(Value.int IntKind.i64 (d21.i))]) ∧ (J d29))))))) ∧ (((std.seq (std.ssub (kP (d22.kp) (Int.toNat (d22.j))) 0 (Int.toNat (2 : Int))) (ByteArray.mk (Array.mk [(115 : UInt8), (47 : UInt8)]))) = false) → ((((-9223372036854775808 : Int) ≤ ((d22.j) + (1 : Int))) ∧ (((d22.j) + (1 : Int)) ≤ (9223372036854775807 : Int))) ∧ (∃ (d29 : MpK), (([(Filler.dl hs), (Filler.dl rows), (Filler.dl raw), (Filler.val (Value.int IntKind.i64 (d29.h))), (Filler.val (Value.int IntKind.i64 (d29.b))), (Filler.val (Value.bool (d29.hal))), (Filler.dl (d29.rc)), (Filler.val (Value.int IntKind.i64 (d29.i))), (Filler.val (Value.bool (d29.ri))), (Filler.dl (d29.kp)), (Filler.val (Value.int IntKind.i64 (d29.n))), (Filler.val (Value.int IntKind.i64 (d29.j))), (Filler.val (Value.int IntKind.i64 (d29.mh))), (Filler.val (Value.int IntKind.i64 (d29.mb))), (Filler.dl (d29.mr)), (Filler.val (Value.bool (d29.ml))), (Filler.val (Value.int IntKind.i64 (d29.kq))), (Filler.val (Value.int IntKind.i64 (d29.kh))), (Filler.dl (d29.kp))] = [(Filler.dl hs), (Filler.dl rows), (Filler.dl raw), (Filler.val (Value.int IntKind.i64 (d22.h))), (Filler.val (Value.int IntKind.i64 (d22.b))), (Filler.val (Value.bool (d22.hal))), (Filler.dl (d22.rc)), (Filler.val (Value.int IntKind.i64 (d22.i))), (Filler.val (Value.bool false)), (Filler.dl (d22.kp)), (Filler.val (Value.int IntKind.i64 (d22.n))), (Filler.val (Value.int IntKind.i64 ((d22.j) + (1 : Int)))), (Filler.val (Value.int IntKind.i64 (d22.mh))), (Filler.val (Value.int IntKind.i64 (d22.mb))), (Filler.dl (d22.mr)), (Filler.val (Value.bool (d22.ml))), (Filler.val (Value.int IntKind.i64 (d22.kq))), (Filler.val (Value.int IntKind.i64 (d22.kh))), (Filler.dl (d22.kp))]) ∧ ((Nat.le (Nat.succ (q d29)) (q d22)) ∧ (([(Value.int IntKind.i64 (d29.i))] = [(Value.int IntKind.i64 (d21.i))]) ∧ (J d29)))))))))) ∧ (((decide ((2 : Int) ≤ ((std.slen (kP (d22.kp) (Int.toNat (d22.j)))) : Int))) = false) → ((((-9223372036854775808 : Int) ≤ ((d22.j) + (1 : Int))) ∧ (((d22.j) + (1 : Int)) ≤ (9223372036854775807 : Int))) ∧ (∃ (d28 : MpK), (([(Filler.dl hs), (Filler.dl rows), (Filler.dl raw), (Filler.val (Value.int IntKind.i64 (d28.h))), (Filler.val (Value.int IntKind.i64 (d28.b))), (Filler.val (Value.bool (d28.hal))), (Filler.dl (d28.rc)), (Filler.val (Value.int IntKind.i64 (d28.i))), (Filler.val (Value.bool (d28.ri))), (Filler.dl (d28.kp)), (Filler.val (Value.int IntKind.i64 (d28.n))), (Filler.val (Value.int IntKind.i64 (d28.j))), (Filler.val (Value.int IntKind.i64 (d28.mh))), (Filler.val (Value.int IntKind.i64 (d28.mb))), (Filler.dl (d28.mr)), (Filler.val (Value.bool (d28.ml))), (Filler.val (Value.int IntKind.i64 (d28.kq))), (Filler.val (Value.int IntKind.i64 (d28.kh))), (Filler.dl (d28.kp))] = [(Filler.dl hs), (Filler.dl rows), (Filler.dl raw), (Filler.val (Value.int IntKind.i64 (d22.h))), (Filler.val (Value.int IntKind.i64 (d22.b))), (Filler.val (Value.bool (d22.hal))), (Filler.dl (d22.rc)), (Filler.val (Value.int IntKind.i64 (d22.i))), (Filler.val (Value.bool false)), (Filler.dl (d22.kp)), (Filler.val (Value.int IntKind.i64 (d22.n))), (Filler.val (Value.int IntKind.i64 ((d22.j) + (1 : Int)))), (Filler.val (Value.int IntKind.i64 (d22.mh))), (Filler.val (Value.int IntKind.i64 (d22.mb))), (Filler.dl (d22.mr)), (Filler.val (Value.bool (d22.ml))), (Filler.val (Value.int IntKind.i64 (d22.kq))), (Filler.val (Value.int IntKind.i64 (d22.kh))), (Filler.dl (d22.kp))]) ∧ ((Nat.le (Nat.succ (q d28)) (q d22)) ∧ (([(Value.int IntKind.i64 (d28.i))] = [(Value.int IntKind.i64 (d21.i))]) ∧ (J d28))))))))) ∧ (((d22.ri) = false) → ((((-9223372036854775808 : Int) ≤ ((d22.j) + (1 : Int))) ∧ (((d22.j) + (1 : Int)) ≤ (9223372036854775807 : Int))) ∧ (∃ (d27 : MpK), (([(Filler.dl hs), (Filler.dl rows), (Filler.dl raw), (Filler.val (Value.int IntKind.i64 (d27.h))), (Filler.val (Value.int IntKind.i64 (d27.b))), (Filler.val (Value.bool (d27.hal))), (Filler.dl (d27.rc)), (Filler.val (Value.int IntKind.i64 (d27.i))), (Filler.val (Value.bool (d27.ri))), (Filler.dl (d27.kp)), (Filler.val (Value.int IntKind.i64 (d27.n))), (Filler.val (Value.int IntKind.i64 (d27.j))), (Filler.val (Value.int IntKind.i64 (d27.mh))), (Filler.val (Value.int IntKind.i64 (d27.mb))), (Filler.dl (d27.mr)), (Filler.val (Value.bool (d27.ml))), (Filler.val (Value.int IntKind.i64 (d27.kq))), (Filler.val (Value.int IntKind.i64 (d27.kh))), (Filler.dl (d27.kp))] = [(Filler.dl hs), (Filler.dl rows), (Filler.dl raw), (Filler.val (Value.int IntKind.i64 (d22.h))), (Filler.val (Value.int IntKind.i64 (d22.b))), (Filler.val (Value.bool (d22.hal))), (Filler.dl (d22.rc)), (Filler.val (Value.int IntKind.i64 (d22.i))), (Filler.val (Value.bool false)), (Filler.dl (d22.kp)), (Filler.val (Value.int IntKind.i64 (d22.n))), (Filler.val (Value.int IntKind.i64 ((d22.j) + (1 : Int)))), (Filler.val (Value.int IntKind.i64 (d22.mh))), (Filler.val (Value.int IntKind.i64 (d22.mb))), (Filler.dl (d22.mr)), (Filler.val (Value.bool (d22.ml))), (Filler.val (Value.int IntKind.i64 (d22.kq))), (Filler.val (Value.int IntKind.i64 (d22.kh))), (Filler.dl (d22.kp))]) ∧ ((Nat.le (Nat.succ (q d27)) (q d22)) ∧ (([(Value.int IntKind.i64 (d27.i))] = [(Value.int IntKind.i64 (d21.i))]) ∧ (J d27)))))))))) ∧ (((decide ((d22.j) < (d22.n))) = false) → ((((List.length (d22.kp)) ≤ 1000000) ∧ (∀ (i26 : Nat), ((i26 < (List.length (d22.kp))) → ((std.slen (vP (d22.kp) i26)) ≤ 9223372036854775807)))) ∧ ((((t.rbok (d22.kp)) = true) → ((((d22.ri) = true) → ((((decide ((d22.kh) < (std.imax (d22.h) (1 : Int)))) = true) → (((List.length (d22.mr)) ≤ 1000000) ∧ (((List.length (d22.kp)) ≤ 1000000) ∧ ((((!((u.te (d22.mh) (d22.kh) (d22.kp)) == (8 : Int))) = true) → ([(Value.bool false)] = [(Value.bool true)])) ∧ (((!((u.te (d22.mh) (d22.kh) (d22.kp)) == (8 : Int))) = false) → (((List.length ([] : List Int)) ≤ 1000000) ∧ ((((!((u.th (d22.mh) (d22.kh) (d22.kp)) == (d22.h))) = true) → ([(Value.bool false)] = [(Value.bool true)])) ∧ (((!((u.th (d22.mh) (d22.kh) (d22.kp)) == (d22.h))) = false) → ((((!((u.tb (d22.mh) (d22.mb) (d22.kh) (d22.kp)) == (d22.b))) = true) → ([(Value.bool false)] = [(Value.bool true)])) ∧ (((!((u.tb (d22.mh) (d22.mb) (d22.kh) (d22.kp)) == (d22.b))) = false) → ((((u.tl (d22.mh) (d22.ml) (d22.kh) (d22.kp)) = true) → ((((d22.hal) = true) → (((List.length (u.tr (d22.mh) (d22.mr) (d22.kh) (d22.kp))) ≤ 1000000) ∧ (((List.length (u.tr (d22.mh) (d22.mr) (d22.kh) (d22.kp))) ≤ 1000000) ∧ ((((g.same (u.tr (d22.mh) (d22.mr) (d22.kh) (d22.kp)) (d22.rc)) = true) → ((((-9223372036854775808 : Int) ≤ ((d22.i) + (1 : Int))) ∧ (((d22.i) + (1 : Int)) ≤ (9223372036854775807 : Int))) ∧ (∃ (d35 : MpL), (([(Filler.dl hs), (Filler.dl rows), (Filler.dl raw), (Filler.val (Value.int IntKind.i64 (d35.h))), (Filler.val (Value.int IntKind.i64 (d35.b))), (Filler.val (Value.bool (d35.hal))), (Filler.dl (d35.rc)), (Filler.val (Value.int IntKind.i64 (d35.i))), (Filler.val (Value.int IntKind.i64 (d35.mh))), (Filler.val (Value.int IntKind.i64 (d35.mb))), (Filler.dl (d35.mr)), (Filler.val (Value.bool (d35.ml)))] = [(Filler.dl hs), (Filler.dl rows), (Filler.dl raw), (Filler.val (Value.int IntKind.i64 (d22.h))), (Filler.val (Value.int IntKind.i64 (d22.b))), (Filler.val (Value.bool (d22.hal))), (Filler.dl (d22.rc)), (Filler.val (Value.int IntKind.i64 ((d22.i) + (1 : Int)))), (Filler.val (Value.int IntKind.i64 (u.th (d22.mh) (d22.kh) (d22.kp)))), (Filler.val (Value.int IntKind.i64 (u.tb (d22.mh) (d22.mb) (d22.kh) (d22.kp)))), (Filler.dl (u.tr (d22.mh) (d22.mr) (d22.kh) (d22.kp))), (Filler.val (Value.bool (u.tl (d22.mh) (d22.ml) (d22.kh) (d22.kp))))]) ∧ ((Nat.le (Nat.succ (m d35)) (m d13)) ∧ (I d35)))))) ∧ (((g.same (u.tr (d22.mh) (d22.mr) (d22.kh) (d22.kp)) (d22.rc)) = false) → ([(Value.bool false)] = [(Value.bool true)])))))) ∧ (((d22.hal) = false) → ([(Value.bool false)] = [(Value.bool true)])))) ∧ (((u.tl (d22.mh) (d22.ml) (d22.kh) (d22.kp)) = false) → ((((d22.hal) = true) → ([(Value.bool false)] = [(Value.bool true)])) ∧ (((d22.hal) = false) → (((List.length (u.tr (d22.mh) (d22.mr) (d22.kh) (d22.kp))) ≤ 1000000) ∧ (((List.length (u.tr (d22.mh) (d22.mr) (d22.kh) (d22.kp))) ≤ 1000000) ∧ ((((g.same (u.tr (d22.mh) (d22.mr) (d22.kh) (d22.kp)) (d22.rc)) = true) → ((((-9223372036854775808 : Int) ≤ ((d22.i) + (1 : Int))) ∧ (((d22.i) + (1 : Int)) ≤ (9223372036854775807 : Int))) ∧ (∃ (d35 : MpL), (([(Filler.dl hs), (Filler.dl rows), (Filler.dl raw), (Filler.val (Value.int IntKind.i64 (d35.h))), (Filler.val (Value.int IntKind.i64 (d35.b))), (Filler.val (Value.bool (d35.hal))), (Filler.dl (d35.rc)), (Filler.val (Value.int IntKind.i64 (d35.i))), (Filler.val (Value.int IntKind.i64 (d35.mh))), (Filler.val (Value.int IntKind.i64 (d35.mb))), (Filler.dl (d35.mr)), (Filler.val (Value.bool (d35.ml)))] = [(Filler.dl hs), (Filler.dl rows), (Filler.dl raw), (Filler.val (Value.int IntKind.i64 (d22.h))), (Filler.val (Value.int IntKind.i64 (d22.b))), (Filler.val (Value.bool (d22.hal))), (Filler.dl (d22.rc)), (Filler.val (Value.int IntKind.i64 ((d22.i) + (1 : Int)))), (Filler.val (Value.int IntKind.i64 (u.th (d22.mh) (d22.kh) (d22.kp)))), (Filler.val (Value.int IntKind.i64 (u.tb (d22.mh) (d22.mb) (d22.kh) (d22.kp)))), (Filler.dl (u.tr (d22.mh) (d22.mr) (d22.kh) (d22.kp))), (Filler.val (Value.bool (u.tl (d22.mh) (d22.ml) (d22.kh) (d22.kp))))]) ∧ ((Nat.le (Nat.succ (m d35)) (m d13)) ∧ (I d35)))))) ∧ (((g.same (u.tr (d22.mh) (d22.mr) (d22.kh) (d22.kp)) (d22.rc)) = false) → ([(Value.bool false)] = [(Value.bool true)]))))))))))))))))))) ∧ (((decide ((d22.kh) < (std.imax (d22.h) (1 : Int)))) = false) → (((List.length (d22.mr)) ≤ 1000000) ∧ (((List.length (d22.kp)) ≤ 1000000) ∧ ((((!((u.te (d22.mh) (d22.kh) (d22.kp)) == (0 : Int))) = true) → ([(Value.bool false)] = [(Value.bool true)])) ∧ (((!((u.te (d22.mh) (d22.kh) (d22.kp)) == (0 : Int))) = false) → (((List.length ([] : List Int)) ≤ 1000000) ∧ ((((!((u.th (d22.mh) (d22.kh) (d22.kp)) == (d22.kh))) = true) → ([(Value.bool false)] = [(Value.bool true)])) ∧ (((!((u.th (d22.mh) (d22.kh) (d22.kp)) == (d22.kh))) = false) → ((((!((u.tb (d22.mh) (d22.mb) (d22.kh) (d22.kp)) == (t.rbck (d22.kp)))) = true) → ([(Value.bool false)] = [(Value.bool true)])) ∧ (((!((u.tb (d22.mh) (d22.mb) (d22.kh) (d22.kp)) == (t.rbck (d22.kp)))) = false) → ((((u.tl (d22.mh) (d22.ml) (d22.kh) (d22.kp)) = true) → ([(Value.bool false)] = [(Value.bool true)])) ∧ (((u.tl (d22.mh) (d22.ml) (d22.kh) (d22.kp)) = false) → (((List.length (u.tr (d22.mh) (d22.mr) (d22.kh) (d22.kp))) ≤ 1000000) ∧ (((List.length (u.tr (d22.mh) (d22.mr) (d22.kh) (d22.kp))) ≤ 1000000) ∧ ((((g.same (u.tr (d22.mh) (d22.mr) (d22.kh) (d22.kp)) (d22.kp)) = true) → ((((-9223372036854775808 : Int) ≤ ((d22.i) + (1 : Int))) ∧ (((d22.i) + (1 : Int)) ≤ (9223372036854775807 : Int))) ∧ (∃ (d34 : MpL), (([(Filler.dl hs), (Filler.dl rows), (Filler.dl raw), (Filler.val (Value.int IntKind.i64 (d34.h))), (Filler.val (Value.int IntKind.i64 (d34.b))), (Filler.val (Value.bool (d34.hal))), (Filler.dl (d34.rc)), (Filler.val (Value.int IntKind.i64 (d34.i))), (Filler.val (Value.int IntKind.i64 (d34.mh))), (Filler.val (Value.int IntKind.i64 (d34.mb))), (Filler.dl (d34.mr)), (Filler.val (Value.bool (d34.ml)))] = [(Filler.dl hs), (Filler.dl rows), (Filler.dl raw), (Filler.val (Value.int IntKind.i64 (d22.kh))), (Filler.val (Value.int IntKind.i64 (t.rbck (d22.kp)))), (Filler.val (Value.bool false)), (Filler.dl (d22.kp)), (Filler.val (Value.int IntKind.i64 ((d22.i) + (1 : Int)))), (Filler.val (Value.int IntKind.i64 (u.th (d22.mh) (d22.kh) (d22.kp)))), (Filler.val (Value.int IntKind.i64 (u.tb (d22.mh) (d22.mb) (d22.kh) (d22.kp)))), (Filler.dl (u.tr (d22.mh) (d22.mr) (d22.kh) (d22.kp))), (Filler.val (Value.bool (u.tl (d22.mh) (d22.ml) (d22.kh) (d22.kp))))]) ∧ ((Nat.le (Nat.succ (m d34)) (m d13)) ∧ (I d34)))))) ∧ (((g.same (u.tr (d22.mh) (d22.mr) (d22.kh) (d22.kp)) (d22.kp)) = false) → ([(Value.bool false)] = [(Value.bool true)]))))))))))))))))))) ∧ (((d22.ri) = false) → (((List.length (d22.mr)) ≤ 1000000) ∧ (((List.length (d22.kp)) ≤ 1000000) ∧ ((((!((u.te (d22.mh) (d22.kh) (d22.kp)) == (1 : Int))) = true) → ([(Value.bool false)] = [(Value.bool true)])) ∧ (((!((u.te (d22.mh) (d22.kh) (d22.kp)) == (1 : Int))) = false) → (((List.length ([] : List Int)) ≤ 1000000) ∧ ((((!((u.th (d22.mh) (d22.kh) (d22.kp)) == (d22.h))) = true) → ([(Value.bool false)] = [(Value.bool true)])) ∧ (((!((u.th (d22.mh) (d22.kh) (d22.kp)) == (d22.h))) = false) → ((((!((u.tb (d22.mh) (d22.mb) (d22.kh) (d22.kp)) == (d22.b))) = true) → ([(Value.bool false)] = [(Value.bool true)])) ∧ (((!((u.tb (d22.mh) (d22.mb) (d22.kh) (d22.kp)) == (d22.b))) = false) → ((((u.tl (d22.mh) (d22.ml) (d22.kh) (d22.kp)) = true) → ((((d22.hal) = true) → (((List.length (u.tr (d22.mh) (d22.mr) (d22.kh) (d22.kp))) ≤ 1000000) ∧ (((List.length (u.tr (d22.mh) (d22.mr) (d22.kh) (d22.kp))) ≤ 1000000) ∧ ((((g.same (u.tr (d22.mh) (d22.mr) (d22.kh) (d22.kp)) (d22.rc)) = true) → ((((-9223372036854775808 : Int) ≤ ((d22.i) + (1 : Int))) ∧ (((d22.i) + (1 : Int)) ≤ (9223372036854775807 : Int))) ∧ (∃ (d34 : MpL), (([(Filler.dl hs), (Filler.dl rows), (Filler.dl raw), (Filler.val (Value.int IntKind.i64 (d34.h))), (Filler.val (Value.int IntKind.i64 (d34.b))), (Filler.val (Value.bool (d34.hal))), (Filler.dl (d34.rc)), (Filler.val (Value.int IntKind.i64 (d34.i))), (Filler.val (Value.int IntKind.i64 (d34.mh))), (Filler.val (Value.int IntKind.i64 (d34.mb))), (Filler.dl (d34.mr)), (Filler.val (Value.bool (d34.ml)))] = [(Filler.dl hs), (Filler.dl rows), (Filler.dl raw), (Filler.val (Value.int IntKind.i64 (d22.h))), (Filler.val (Value.int IntKind.i64 (d22.b))), (Filler.val (Value.bool (d22.hal))), (Filler.dl (d22.rc)), (Filler.val (Value.int IntKind.i64 ((d22.i) + (1 : Int)))), (Filler.val (Value.int IntKind.i64 (u.th (d22.mh) (d22.kh) (d22.kp)))), (Filler.val (Value.int IntKind.i64 (u.tb (d22.mh) (d22.mb) (d22.kh) (d22.kp)))), (Filler.dl (u.tr (d22.mh) (d22.mr) (d22.kh) (d22.kp))), (Filler.val (Value.bool (u.tl (d22.mh) (d22.ml) (d22.kh) (d22.kp))))]) ∧ ((Nat.le (Nat.succ (m d34)) (m d13)) ∧ (I d34)))))) ∧ (((g.same (u.tr (d22.mh) (d22.mr) (d22.kh) (d22.kp)) (d22.rc)) = false) → ([(Value.bool false)] = [(Value.bool true)])))))) ∧ (((d22.hal) = false) → ([(Value.bool false)] = [(Value.bool true)])))) ∧ (((u.tl (d22.mh) (d22.ml) (d22.kh) (d22.kp)) = false) → ((((d22.hal) = true) → ([(Value.bool false)] = [(Value.bool true)])) ∧ (((d22.hal) = false) → (((List.length (u.tr (d22.mh) (d22.mr) (d22.kh) (d22.kp))) ≤ 1000000) ∧ (((List.length (u.tr (d22.mh) (d22.mr) (d22.kh) (d22.kp))) ≤ 1000000) ∧ ((((g.same (u.tr (d22.mh) (d22.mr) (d22.kh) (d22.kp)) (d22.rc)) = true) → ((((-9223372036854775808 : Int) ≤ ((d22.i) + (1 : Int))) ∧ (((d22.i) + (1 : Int)) ≤ (9223372036854775807 : Int))) ∧ (∃ (d34 : MpL), (([(Filler.dl hs), (Filler.dl rows), (Filler.dl raw), (Filler.val (Value.int IntKind.i64 (d34.h))), (Filler.val (Value.int IntKind.i64 (d34.b))), (Filler.val (Value.bool (d34.hal))), (Filler.dl (d34.rc)), (Filler.val (Value.int IntKind.i64 (d34.i))), (Filler.val (Value.int IntKind.i64 (d34.mh))), (Filler.val (Value.int IntKind.i64 (d34.mb))), (Filler.dl (d34.mr)), (Filler.val (Value.bool (d34.ml)))] = [(Filler.dl hs), (Filler.dl rows), (Filler.dl raw), (Filler.val (Value.int IntKind.i64 (d22.h))), (Filler.val (Value.int IntKind.i64 (d22.b))), (Filler.val (Value.bool (d22.hal))), (Filler.dl (d22.rc)), (Filler.val (Value.int IntKind.i64 ((d22.i) + (1 : Int)))), (Filler.val (Value.int IntKind.i64 (u.th (d22.mh) (d22.kh) (d22.kp)))), (Filler.val (Value.int IntKind.i64 (u.tb (d22.mh) (d22.mb) (d22.kh) (d22.kp)))), (Filler.dl (u.tr (d22.mh) (d22.mr) (d22.kh) (d22.kp))), (Filler.val (Value.bool (u.tl (d22.mh) (d22.ml) (d22.kh) (d22.kp))))]) ∧ ((Nat.le (Nat.succ (m d34)) (m d13)) ∧ (I d34)))))) ∧ (((g.same (u.tr (d22.mh) (d22.mr) (d22.kh) (d22.kp)) (d22.rc)) = false) → ([(Value.bool false)] = [(Value.bool true)]))))))))))))))))))))) ∧ (((t.rbok (d22.kp)) = false) → ((((d22.ri) = true) → ((((decide ((d22.kh) < (std.imax (d22.h) (1 : Int)))) = true) → (((List.length (d22.mr)) ≤ 1000000) ∧ (((List.length (d22.kp)) ≤ 1000000) ∧ ((((!((u.te (d22.mh) (d22.kh) (d22.kp)) == (8 : Int))) = true) → ([(Value.bool false)] = [(Value.bool true)])) ∧ (((!((u.te (d22.mh) (d22.kh) (d22.kp)) == (8 : Int))) = false) → (((List.length ([] : List Int)) ≤ 1000000) ∧ ((((!((u.th (d22.mh) (d22.kh) (d22.kp)) == (d22.h))) = true) → ([(Value.bool false)] = [(Value.bool true)])) ∧ (((!((u.th (d22.mh) (d22.kh) (d22.kp)) == (d22.h))) = false) → ((((!((u.tb (d22.mh) (d22.mb) (d22.kh) (d22.kp)) == (d22.b))) = true) → ([(Value.bool false)] = [(Value.bool true)])) ∧ (((!((u.tb (d22.mh) (d22.mb) (d22.kh) (d22.kp)) == (d22.b))) = false) → ((((u.tl (d22.mh) (d22.ml) (d22.kh) (d22.kp)) = true) → ((((d22.hal) = true) → (((List.length (u.tr (d22.mh) (d22.mr) (d22.kh) (d22.kp))) ≤ 1000000) ∧ (((List.length (u.tr (d22.mh) (d22.mr) (d22.kh) (d22.kp))) ≤ 1000000) ∧ ((((g.same (u.tr (d22.mh) (d22.mr) (d22.kh) (d22.kp)) (d22.rc)) = true) → ((((-9223372036854775808 : Int) ≤ ((d22.i) + (1 : Int))) ∧ (((d22.i) + (1 : Int)) ≤ (9223372036854775807 : Int))) ∧ (∃ (d35 : MpL), (([(Filler.dl hs), (Filler.dl rows), (Filler.dl raw), (Filler.val (Value.int IntKind.i64 (d35.h))), (Filler.val (Value.int IntKind.i64 (d35.b))), (Filler.val (Value.bool (d35.hal))), (Filler.dl (d35.rc)), (Filler.val (Value.int IntKind.i64 (d35.i))), (Filler.val (Value.int IntKind.i64 (d35.mh))), (Filler.val (Value.int IntKind.i64 (d35.mb))), (Filler.dl (d35.mr)), (Filler.val (Value.bool (d35.ml)))] = [(Filler.dl hs), (Filler.dl rows), (Filler.dl raw), (Filler.val (Value.int IntKind.i64 (d22.h))), (Filler.val (Value.int IntKind.i64 (d22.b))), (Filler.val (Value.bool (d22.hal))), (Filler.dl (d22.rc)), (Filler.val (Value.int IntKind.i64 ((d22.i) + (1 : Int)))), (Filler.val (Value.int IntKind.i64 (u.th (d22.mh) (d22.kh) (d22.kp)))), (Filler.val (Value.int IntKind.i64 (u.tb (d22.mh) (d22.mb) (d22.kh) (d22.kp)))), (Filler.dl (u.tr (d22.mh) (d22.mr) (d22.kh) (d22.kp))), (Filler.val (Value.bool (u.tl (d22.mh) (d22.ml) (d22.kh) (d22.kp))))]) ∧ ((Nat.le (Nat.succ (m d35)) (m d13)) ∧ (I d35)))))) ∧ (((g.same (u.tr (d22.mh) (d22.mr) (d22.kh) (d22.kp)) (d22.rc)) = false) → ([(Value.bool false)] = [(Value.bool true)])))))) ∧ (((d22.hal) = false) → ([(Value.bool false)] = [(Value.bool true)])))) ∧ (((u.tl (d22.mh) (d22.ml) (d22.kh) (d22.kp)) = false) → ((((d22.hal) = true) → ([(Value.bool false)] = [(Value.bool true)])) ∧ (((d22.hal) = false) → (((List.length (u.tr (d22.mh) (d22.mr) (d22.kh) (d22.kp))) ≤ 1000000) ∧ (((List.length (u.tr (d22.mh) (d22.mr) (d22.kh) (d22.kp))) ≤ 1000000) ∧ ((((g.same (u.tr (d22.mh) (d22.mr) (d22.kh) (d22.kp)) (d22.rc)) = true) → ((((-9223372036854775808 : Int) ≤ ((d22.i) + (1 : Int))) ∧ (((d22.i) + (1 : Int)) ≤ (9223372036854775807 : Int))) ∧ (∃ (d35 : MpL), (([(Filler.dl hs), (Filler.dl rows), (Filler.dl raw), (Filler.val (Value.int IntKind.i64 (d35.h))), (Filler.val (Value.int IntKind.i64 (d35.b))), (Filler.val (Value.bool (d35.hal))), (Filler.dl (d35.rc)), (Filler.val (Value.int IntKind.i64 (d35.i))), (Filler.val (Value.int IntKind.i64 (d35.mh))), (Filler.val (Value.int IntKind.i64 (d35.mb))), (Filler.dl (d35.mr)), (Filler.val (Value.bool (d35.ml)))] = [(Filler.dl hs), (Filler.dl rows), (Filler.dl raw), (Filler.val (Value.int IntKind.i64 (d22.h))), (Filler.val (Value.int IntKind.i64 (d22.b))), (Filler.val (Value.bool (d22.hal))), (Filler.dl (d22.rc)), (Filler.val (Value.int IntKind.i64 ((d22.i) + (1 : Int)))), (Filler.val (Value.int IntKind.i64 (u.th (d22.mh) (d22.kh) (d22.kp)))), (Filler.val (Value.int IntKind.i64 (u.tb (d22.mh) (d22.mb) (d22.kh) (d22.kp)))), (Filler.dl (u.tr (d22.mh) (d22.mr) (d22.kh) (d22.kp))), (Filler.val (Value.bool (u.tl (d22.mh) (d22.ml) (d22.kh) (d22.kp))))]) ∧ ((Nat.le (Nat.succ (m d35)) (m d13)) ∧ (I d35)))))) ∧ (((g.same (u.tr (d22.mh) (d22.mr) (d22.kh) (d22.kp)) (d22.rc)) = false) → ([(Value.bool false)] = [(Value.bool true)]))))))))))))))))))) ∧ (((decide ((d22.kh) < (std.imax (d22.h) (1 : Int)))) = false) → (((List.length (d22.mr)) ≤ 1000000) ∧ (((List.length (d22.kp)) ≤ 1000000) ∧ ((((!((u.te (d22.mh) (d22.kh) (d22.kp)) == (10 : Int))) = true) → ([(Value.bool false)] = [(Value.bool true)])) ∧ (((!((u.te (d22.mh) (d22.kh) (d22.kp)) == (10 : Int))) = false) → (((List.length ([] : List Int)) ≤ 1000000) ∧ ((((!((u.th (d22.mh) (d22.kh) (d22.kp)) == (d22.h))) = true) → ([(Value.bool false)] = [(Value.bool true)])) ∧ (((!((u.th (d22.mh) (d22.kh) (d22.kp)) == (d22.h))) = false) → ((((!((u.tb (d22.mh) (d22.mb) (d22.kh) (d22.kp)) == (d22.b))) = true) → ([(Value.bool false)] = [(Value.bool true)])) ∧ (((!((u.tb (d22.mh) (d22.mb) (d22.kh) (d22.kp)) == (d22.b))) = false) → ((((u.tl (d22.mh) (d22.ml) (d22.kh) (d22.kp)) = true) → (((List.length (u.tr (d22.mh) (d22.mr) (d22.kh) (d22.kp))) ≤ 1000000) ∧ (((List.length (u.tr (d22.mh) (d22.mr) (d22.kh) (d22.kp))) ≤ 1000000) ∧ ((((g.same (u.tr (d22.mh) (d22.mr) (d22.kh) (d22.kp)) (d22.rc)) = true) → ((((-9223372036854775808 : Int) ≤ ((d22.i) + (1 : Int))) ∧ (((d22.i) + (1 : Int)) ≤ (9223372036854775807 : Int))) ∧ (∃ (d34 : MpL), (([(Filler.dl hs), (Filler.dl rows), (Filler.dl raw), (Filler.val (Value.int IntKind.i64 (d34.h))), (Filler.val (Value.int IntKind.i64 (d34.b))), (Filler.val (Value.bool (d34.hal))), (Filler.dl (d34.rc)), (Filler.val (Value.int IntKind.i64 (d34.i))), (Filler.val (Value.int IntKind.i64 (d34.mh))), (Filler.val (Value.int IntKind.i64 (d34.mb))), (Filler.dl (d34.mr)), (Filler.val (Value.bool (d34.ml)))] = [(Filler.dl hs), (Filler.dl rows), (Filler.dl raw), (Filler.val (Value.int IntKind.i64 (d22.h))), (Filler.val (Value.int IntKind.i64 (d22.b))), (Filler.val (Value.bool true)), (Filler.dl (d22.rc)), (Filler.val (Value.int IntKind.i64 ((d22.i) + (1 : Int)))), (Filler.val (Value.int IntKind.i64 (u.th (d22.mh) (d22.kh) (d22.kp)))), (Filler.val (Value.int IntKind.i64 (u.tb (d22.mh) (d22.mb) (d22.kh) (d22.kp)))), (Filler.dl (u.tr (d22.mh) (d22.mr) (d22.kh) (d22.kp))), (Filler.val (Value.bool (u.tl (d22.mh) (d22.ml) (d22.kh) (d22.kp))))]) ∧ ((Nat.le (Nat.succ (m d34)) (m d13)) ∧ (I d34)))))) ∧ (((g.same (u.tr (d22.mh) (d22.mr) (d22.kh) (d22.kp)) (d22.rc)) = false) → ([(Value.bool false)] = [(Value.bool true)])))))) ∧ (((u.tl (d22.mh) (d22.ml) (d22.kh) (d22.kp)) = false) → ([(Value.bool false)] = [(Value.bool true)]))))))))))))))) ∧ (((d22.ri) = false) → (((List.length (d22.mr)) ≤ 1000000) ∧ (((List.length (d22.kp)) ≤ 1000000) ∧ ((((!((u.te (d22.mh) (d22.kh) (d22.kp)) == (1 : Int))) = true) → ([(Value.bool false)] = [(Value.bool true)])) ∧ (((!((u.te (d22.mh) (d22.kh) (d22.kp)) == (1 : Int))) = false) → (((List.length ([] : List Int)) ≤ 1000000) ∧ ((((!((u.th (d22.mh) (d22.kh) (d22.kp)) == (d22.h))) = true) → ([(Value.bool false)] = [(Value.bool true)])) ∧ (((!((u.th (d22.mh) (d22.kh) (d22.kp)) == (d22.h))) = false) → ((((!((u.tb (d22.mh) (d22.mb) (d22.kh) (d22.kp)) == (d22.b))) = true) → ([(Value.bool false)] = [(Value.bool true)])) ∧ (((!((u.tb (d22.mh) (d22.mb) (d22.kh) (d22.kp)) == (d22.b))) = false) → ((((u.tl (d22.mh) (d22.ml) (d22.kh) (d22.kp)) = true) → ((((d22.hal) = true) → (((List.length (u.tr (d22.mh) (d22.mr) (d22.kh) (d22.kp))) ≤ 1000000) ∧ (((List.length (u.tr (d22.mh) (d22.mr) (d22.kh) (d22.kp))) ≤ 1000000) ∧ ((((g.same (u.tr (d22.mh) (d22.mr) (d22.kh) (d22.kp)) (d22.rc)) = true) → ((((-9223372036854775808 : Int) ≤ ((d22.i) + (1 : Int))) ∧ (((d22.i) + (1 : Int)) ≤ (9223372036854775807 : Int))) ∧ (∃ (d34 : MpL), (([(Filler.dl hs), (Filler.dl rows), (Filler.dl raw), (Filler.val (Value.int IntKind.i64 (d34.h))), (Filler.val (Value.int IntKind.i64 (d34.b))), (Filler.val (Value.bool (d34.hal))), (Filler.dl (d34.rc)), (Filler.val (Value.int IntKind.i64 (d34.i))), (Filler.val (Value.int IntKind.i64 (d34.mh))), (Filler.val (Value.int IntKind.i64 (d34.mb))), (Filler.dl (d34.mr)), (Filler.val (Value.bool (d34.ml)))] = [(Filler.dl hs), (Filler.dl rows), (Filler.dl raw), (Filler.val (Value.int IntKind.i64 (d22.h))), (Filler.val (Value.int IntKind.i64 (d22.b))), (Filler.val (Value.bool (d22.hal))), (Filler.dl (d22.rc)), (Filler.val (Value.int IntKind.i64 ((d22.i) + (1 : Int)))), (Filler.val (Value.int IntKind.i64 (u.th (d22.mh) (d22.kh) (d22.kp)))), (Filler.val (Value.int IntKind.i64 (u.tb (d22.mh) (d22.mb) (d22.kh) (d22.kp)))), (Filler.dl (u.tr (d22.mh) (d22.mr) (d22.kh) (d22.kp))), (Filler.val (Value.bool (u.tl (d22.mh) (d22.ml) (d22.kh) (d22.kp))))]) ∧ ((Nat.le (Nat.succ (m d34)) (m d13)) ∧ (I d34)))))) ∧ (((g.same (u.tr (d22.mh) (d22.mr) (d22.kh) (d22.kp)) (d22.rc)) = false) → ([(Value.bool false)] = [(Value.bool true)])))))) ∧ (((d22.hal) = false) → ([(Value.bool false)] = [(Value.bool true)])))) ∧ (((u.tl (d22.mh) (d22.ml) (d22.kh) (d22.kp)) = false) → ((((d22.hal) = true) → ([(Value.bool false)] = [(Value.bool true)])) ∧ (((d22.hal) = false) → (((List.length (u.tr (d22.mh) (d22.mr) (d22.kh) (d22.kp))) ≤ 1000000) ∧ (((List.length (u.tr (d22.mh) (d22.mr) (d22.kh) (d22.kp))) ≤ 1000000) ∧ ((((g.same (u.tr (d22.mh) (d22.mr) (d22.kh) (d22.kp)) (d22.rc)) = true) → ((((-9223372036854775808 : Int) ≤ ((d22.i) + (1 : Int))) ∧ (((d22.i) + (1 : Int)) ≤ (9223372036854775807 : Int))) ∧ (∃ (d34 : MpL), (([(Filler.dl hs), (Filler.dl rows), (Filler.dl raw), (Filler.val (Value.int IntKind.i64 (d34.h))), (Filler.val (Value.int IntKind.i64 (d34.b))), (Filler.val (Value.bool (d34.hal))), (Filler.dl (d34.rc)), (Filler.val (Value.int IntKind.i64 (d34.i))), (Filler.val (Value.int IntKind.i64 (d34.mh))), (Filler.val (Value.int IntKind.i64 (d34.mb))), (Filler.dl (d34.mr)), (Filler.val (Value.bool (d34.ml)))] = [(Filler.dl hs), (Filler.dl rows), (Filler.dl raw), (Filler.val (Value.int IntKind.i64 (d22.h))), (Filler.val (Value.int IntKind.i64 (d22.b))), (Filler.val (Value.bool (d22.hal))), (Filler.dl (d22.rc)), (Filler.val (Value.int IntKind.i64 ((d22.i) + (1 : Int)))), (Filler.val (Value.int IntKind.i64 (u.th (d22.mh) (d22.kh) (d22.kp)))), (Filler.val (Value.int IntKind.i64 (u.tb (d22.mh) (d22.mb) (d22.kh) (d22.kp)))), (Filler.dl (u.tr (d22.mh) (d22.mr) (d22.kh) (d22.kp))), (Filler.val (Value.bool (u.tl (d22.mh) (d22.ml) (d22.kh) (d22.kp))))]) ∧ ((Nat.le (Nat.succ (m d34)) (m d13)) ∧ (I d34)))))) ∧ (((g.same (u.tr (d22.mh) (d22.mr) (d22.kh) (d22.kp)) (d22.rc)) = false) → ([(Value.bool false)] = [(Value.bool true)])))))))))))))))))))))))))))))))
def mp_vc_L7 (g : KvF) (t : StF) (u : MiF) (hs : List Value) (rows : List Value) (raw : List Value) (I : MpL → Prop) (m : MpL → Nat) (J : MpK → Prop) (q : MpK → Nat) : Prop :=
  (∃ (d12 : MpL), (([(Filler.dl hs), (Filler.dl rows), (Filler.dl raw), (Filler.val (Value.int IntKind.i64 (d12.h))), (Filler.val (Value.int IntKind.i64 (d12.b))), (Filler.val (Value.bool (d12.hal))), (Filler.dl (d12.rc)), (Filler.val (Value.int IntKind.i64 (d12.i))), (Filler.val (Value.int IntKind.i64 (d12.mh))), (Filler.val (Value.int IntKind.i64 (d12.mb))), (Filler.dl (d12.mr)), (Filler.val (Value.bool (d12.ml)))] = [(Filler.dl hs), (Filler.dl rows), (Filler.dl raw), (Filler.val (Value.int IntKind.i64 (0 : Int))), (Filler.val (Value.int IntKind.i64 (0 : Int))), (Filler.val (Value.bool false)), (Filler.dl []), (Filler.val (Value.int IntKind.i64 (0 : Int))), (Filler.val (Value.int IntKind.i64 (0 : Int))), (Filler.val (Value.int IntKind.i64 (0 : Int))), (Filler.dl []), (Filler.val (Value.bool false))]) ∧ ((I d12) ∧ (∀ (d13 : MpL), ((I d13) → ((((decide ((d13.i) < ((List.length hs) : Int))) = true) → ((((decide ((d13.i) < ((List.length rows) : Int))) = true) → ((((decide ((d13.i) < (20 : Int))) = true) → ((((0 : Int) ≤ (d13.i)) ∧ ((d13.i) < ((List.length hs) : Int))) ∧ (((((-9223372036854775808 : Int) ≤ (eI hs (Int.toNat (d13.i)))) ∧ ((eI hs (Int.toNat (d13.i))) ≤ (9223372036854775807 : Int))) ∧ (((-1000000000000 : Int) ≤ (0 : Int)) ∧ (((0 : Int) ≤ (12 : Int)) ∧ ((12 : Int) ≤ (2000000000000 : Int))))) ∧ ((((0 : Int) ≤ (d13.i)) ∧ ((d13.i) < ((List.length rows) : Int))) ∧ ((((List.length (std.dels (std.get (Value.func (Go.Fn.yield 1) (Array.mk [(Value.int IntKind.i64 (0 : Int))]) (Array.mk [])) rows (Int.toNat (d13.i))))) ≤ 9223372036854775807) ∧ (∀ (i18 : Nat), ((i18 < (List.length (std.dels (std.get (Value.func (Go.Fn.yield 1) (Array.mk [(Value.int IntKind.i64 (0 : Int))]) (Array.mk [])) rows (Int.toNat (d13.i)))))) → (((-9223372036854775808 : Int) ≤ (eI (std.dels (std.get (Value.func (Go.Fn.yield 1) (Array.mk [(Value.int IntKind.i64 (0 : Int))]) (Array.mk [])) rows (Int.toNat (d13.i)))) i18)) ∧ ((eI (std.dels (std.get (Value.func (Go.Fn.yield 1) (Array.mk [(Value.int IntKind.i64 (0 : Int))]) (Array.mk [])) rows (Int.toNat (d13.i)))) i18) ≤ (9223372036854775807 : Int)))))) ∧ (((0 : Int) < (4 : Int)) ∧ (((((std.rem (d13.i) (4 : Int)) == (3 : Int)) = true) → (((((0 : Int) ≤ (std.imin ((List.length raw) : Int) (4 : Int))) ∧ ((std.imin ((List.length raw) : Int) (4 : Int)) ≤ ((List.length raw) : Int))) ∧ True) ∧ (((0 : Int) < (5 : Int)) ∧ (((((std.rem (d13.i) (5 : Int)) == (2 : Int)) = true) → ((((0 : Int) ≤ (d13.i)) ∧ ((d13.i) < ((List.length rows) : Int))) ∧ ((∀ (i20 : Nat), ((i20 < (List.length (std.dels (std.get (Value.func (Go.Fn.yield 1) (Array.mk [(Value.int IntKind.i64 (0 : Int))]) (Array.mk [])) rows (Int.toNat (d13.i)))))) → (((-9223372036854775808 : Int) ≤ (eI (std.dels (std.get (Value.func (Go.Fn.yield 1) (Array.mk [(Value.int IntKind.i64 (0 : Int))]) (Array.mk [])) rows (Int.toNat (d13.i)))) i20)) ∧ ((eI (std.dels (std.get (Value.func (Go.Fn.yield 1) (Array.mk [(Value.int IntKind.i64 (0 : Int))]) (Array.mk [])) rows (Int.toNat (d13.i)))) i20) ≤ (9223372036854775807 : Int))))) ∧ (((List.length (g.pairs (std.dels (std.get (Value.func (Go.Fn.yield 1) (Array.mk [(Value.int IntKind.i64 (0 : Int))]) (Array.mk [])) rows (Int.toNat (d13.i)))))) ≤ 1000000) ∧ ((((g.rright (g.pairs (std.dels (std.get (Value.func (Go.Fn.yield 1) (Array.mk [(Value.int IntKind.i64 (0 : Int))]) (Array.mk [])) rows (Int.toNat (d13.i)))))) = true) → (mpIn g t u hs rows raw I m J q d13 (g.pairs (std.dels (std.get (Value.func (Go.Fn.yield 1) (Array.mk [(Value.int IntKind.i64 (0 : Int))]) (Array.mk [])) rows (Int.toNat (d13.i))))) true)) ∧ (((g.rright (g.pairs (std.dels (std.get (Value.func (Go.Fn.yield 1) (Array.mk [(Value.int IntKind.i64 (0 : Int))]) (Array.mk [])) rows (Int.toNat (d13.i)))))) = false) → (mpIn g t u hs rows raw I m J q d13 (g.pairs (std.dels (std.get (Value.func (Go.Fn.yield 1) (Array.mk [(Value.int IntKind.i64 (0 : Int))]) (Array.mk [])) rows (Int.toNat (d13.i))))) false))))))) ∧ ((((std.rem (d13.i) (5 : Int)) == (2 : Int)) = false) → (((List.length (List.take ((Int.toNat (std.imin ((List.length raw) : Int) (4 : Int))) - 0) (List.drop 0 raw))) ≤ 1000000) ∧ ((((g.rright (List.take ((Int.toNat (std.imin ((List.length raw) : Int) (4 : Int))) - 0) (List.drop 0 raw))) = true) → (mpIn g t u hs rows raw I m J q d13 (List.take ((Int.toNat (std.imin ((List.length raw) : Int) (4 : Int))) - 0) (List.drop 0 raw)) true)) ∧ (((g.rright (List.take ((Int.toNat (std.imin ((List.length raw) : Int) (4 : Int))) - 0) (List.drop 0 raw))) = false) → (mpIn g t u hs rows raw I m J q d13 (List.take ((Int.toNat (std.imin ((List.length raw) : Int) (4 : Int))) - 0) (List.drop 0 raw)) false))))))))) ∧ ((((std.rem (d13.i) (4 : Int)) == (3 : Int)) = false) → (((0 : Int) < (5 : Int)) ∧ (((((std.rem (d13.i) (5 : Int)) == (2 : Int)) = true) → ((((0 : Int) ≤ (d13.i)) ∧ ((d13.i) < ((List.length rows) : Int))) ∧ ((∀ (i20 : Nat), ((i20 < (List.length (std.dels (std.get (Value.func (Go.Fn.yield 1) (Array.mk [(Value.int IntKind.i64 (0 : Int))]) (Array.mk [])) rows (Int.toNat (d13.i)))))) → (((-9223372036854775808 : Int) ≤ (eI (std.dels (std.get (Value.func (Go.Fn.yield 1) (Array.mk [(Value.int IntKind.i64 (0 : Int))]) (Array.mk [])) rows (Int.toNat (d13.i)))) i20)) ∧ ((eI (std.dels (std.get (Value.func (Go.Fn.yield 1) (Array.mk [(Value.int IntKind.i64 (0 : Int))]) (Array.mk [])) rows (Int.toNat (d13.i)))) i20) ≤ (9223372036854775807 : Int))))) ∧ (((List.length (g.pairs (std.dels (std.get (Value.func (Go.Fn.yield 1) (Array.mk [(Value.int IntKind.i64 (0 : Int))]) (Array.mk [])) rows (Int.toNat (d13.i)))))) ≤ 1000000) ∧ ((((g.rright (g.pairs (std.dels (std.get (Value.func (Go.Fn.yield 1) (Array.mk [(Value.int IntKind.i64 (0 : Int))]) (Array.mk [])) rows (Int.toNat (d13.i)))))) = true) → (mpIn g t u hs rows raw I m J q d13 (g.pairs (std.dels (std.get (Value.func (Go.Fn.yield 1) (Array.mk [(Value.int IntKind.i64 (0 : Int))]) (Array.mk [])) rows (Int.toNat (d13.i))))) true)) ∧ (((g.rright (g.pairs (std.dels (std.get (Value.func (Go.Fn.yield 1) (Array.mk [(Value.int IntKind.i64 (0 : Int))]) (Array.mk [])) rows (Int.toNat (d13.i)))))) = false) → (mpIn g t u hs rows raw I m J q d13 (g.pairs (std.dels (std.get (Value.func (Go.Fn.yield 1) (Array.mk [(Value.int IntKind.i64 (0 : Int))]) (Array.mk [])) rows (Int.toNat (d13.i))))) false))))))) ∧ ((((std.rem (d13.i) (5 : Int)) == (2 : Int)) = false) → (((List.length (u.recs (std.dels (std.get (Value.func (Go.Fn.yield 1) (Array.mk [(Value.int IntKind.i64 (0 : Int))]) (Array.mk [])) rows (Int.toNat (d13.i)))))) ≤ 1000000) ∧ ((((g.rright (u.recs (std.dels (std.get (Value.func (Go.Fn.yield 1) (Array.mk [(Value.int IntKind.i64 (0 : Int))]) (Array.mk [])) rows (Int.toNat (d13.i)))))) = true) → (mpIn g t u hs rows raw I m J q d13 (u.recs (std.dels (std.get (Value.func (Go.Fn.yield 1) (Array.mk [(Value.int IntKind.i64 (0 : Int))]) (Array.mk [])) rows (Int.toNat (d13.i))))) true)) ∧ (((g.rright (u.recs (std.dels (std.get (Value.func (Go.Fn.yield 1) (Array.mk [(Value.int IntKind.i64 (0 : Int))]) (Array.mk [])) rows (Int.toNat (d13.i)))))) = false) → (mpIn g t u hs rows raw I m J q d13 (u.recs (std.dels (std.get (Value.func (Go.Fn.yield 1) (Array.mk [(Value.int IntKind.i64 (0 : Int))]) (Array.mk [])) rows (Int.toNat (d13.i))))) false))))))))))))))) ∧ (((decide ((d13.i) < (20 : Int))) = false) → ([(Value.bool true)] = [(Value.bool true)])))) ∧ (((decide ((d13.i) < ((List.length rows) : Int))) = false) → ([(Value.bool true)] = [(Value.bool true)])))) ∧ (((decide ((d13.i) < ((List.length hs) : Int))) = false) → ([(Value.bool true)] = [(Value.bool true)]))))))))
set_option maxRecDepth 100000 in
theorem mp_vc (g : KvF) (t : StF) (u : MiF) (hs rows raw : List Value) (I : MpL → Prop) (m : MpL → Nat) (J : MpK → Prop) (q : MpK → Nat) : runP std (mpCon std g t u) 90 (mpLs hs rows raw I m J q) mpP 6 Try.f6 (hs, rows, raw, ()) =
  (mp_vc_L7 g t u hs rows raw I m J q) := by kernel_rfl
end Go.Proofs.Ytmhfnbbamoadgaa
end
section
namespace Go.Proofs.Ytmhfnbbamoadgaa
open Go Go.Abs Go.RowKit Go.ChangeShapes Go.WideShapes Go.ChangeAt
set_option maxRecDepth 100000
def KpOk (l : List Value) : Prop := l.length ≤ 12 ∧ ∀ x ∈ l, lenB (valV x) ≤ 9223372036854775807
noncomputable def rowAt (rows : List Value) (i : Nat) : List Value := std.dels (std.get (Value.func (Go.Fn.yield 1) #[Value.int .i64 0] #[]) rows i)
def RowsOk (rows : List Value) : Prop := ∀ i, i < rows.length → (rowAt rows i).length ≤ 9223372036854775807 ∧ IntsOk (rowAt rows i)
def mpI (hs rows : List Value) (d : MpL) : Prop := d.mh = d.h ∧ d.mb = d.b ∧ d.mr = d.rc ∧ d.ml = d.hal ∧ d.rc.length ≤ 12 ∧ ∃ i : Nat, d.i = i ∧ i ≤ 20 ∧ i ≤ hs.length ∧ i ≤ rows.length
def mpJ (hs rows : List Value) (d : MpK) : Prop := d.mh = d.h ∧ d.mb = d.b ∧ d.mr = d.rc ∧ d.ml = d.hal ∧ d.rc.length ≤ 12 ∧ (∃ i : Nat, d.i = i ∧ i < 20 ∧ i < hs.length ∧ i < rows.length) ∧ KpOk d.kp ∧ d.n = (d.kp.length : Int) ∧ ∃ j : Nat, d.j = j ∧ j ≤ d.kp.length ∧ d.ri = (rightF mayF d.kp && stkUp d.kp j)
theorem cmp_no {a b : Int} (h : a = b) {P : Prop} (h2 : (!(a == b)) = true) : P := by rw [h] at h2; simp at h2
theorem b_no {b : Bool} {P : Prop} (h1 : b = true) (h2 : b = false) : P := by rw [h1] at h2; cases h2
theorem same_no {a b : List Value} {P : Prop} (h : a = b) (h2 : sameF a b = false) : P := by rw [h, same_self] at h2; cases h2
theorem tail_any {te w th H tb B : Int} {tl hal : Bool} {mr kp tr rc : List Value} {X F : Prop} (L1 : mr.length ≤ 1000000) (L2 : kp.length ≤ 1000000) (e1 : te = w) (e2 : th = H) (e3 : tb = B) (e4 : tl = hal) (e5 : tr = rc) (L3 : tr.length ≤ 1000000) (nx : X) :
    mr.length ≤ 1000000 ∧ kp.length ≤ 1000000 ∧ ((!(te == w)) = true → F) ∧ ((!(te == w)) = false → ([] : List Int).length ≤ 1000000 ∧ ((!(th == H)) = true → F) ∧ ((!(th == H)) = false → ((!(tb == B)) = true → F) ∧ ((!(tb == B)) = false → (tl = true → (hal = true → (tr.length ≤ 1000000 ∧ tr.length ≤ 1000000 ∧ (sameF tr rc = true → X) ∧ (sameF tr rc = false → F))) ∧ (hal = false → F)) ∧
      (tl = false → (hal = true → F) ∧ (hal = false → (tr.length ≤ 1000000 ∧ tr.length ≤ 1000000 ∧ (sameF tr rc = true → X) ∧ (sameF tr rc = false → F))))))) :=
  have s := fun {P : Prop} (h2 : sameF tr rc = false) => same_no (P := P) e5 h2
  ⟨L1, L2, cmp_no e1, fun _ => ⟨Nat.zero_le _, cmp_no e2, fun _ => ⟨cmp_no e3, fun _ => ⟨fun h1 => ⟨fun _ => ⟨L3, L3, fun _ => nx, fun h => s h⟩, fun h => b_no (e4.symm.trans h1) h⟩, fun h1 => ⟨fun h => b_no h (e4.symm.trans h1), fun _ => ⟨L3, L3, fun _ => nx, fun h => s h⟩⟩⟩⟩⟩⟩
theorem tail_no {te w th H tb B : Int} {tl : Bool} {mr kp tr rc : List Value} {X F : Prop} (L1 : mr.length ≤ 1000000) (L2 : kp.length ≤ 1000000) (e1 : te = w) (e2 : th = H) (e3 : tb = B) (e4 : tl = false) (e5 : tr = rc) (L3 : tr.length ≤ 1000000) (nx : X) :
    mr.length ≤ 1000000 ∧ kp.length ≤ 1000000 ∧ ((!(te == w)) = true → F) ∧ ((!(te == w)) = false → ([] : List Int).length ≤ 1000000 ∧ ((!(th == H)) = true → F) ∧ ((!(th == H)) = false → ((!(tb == B)) = true → F) ∧ ((!(tb == B)) = false → (tl = true → F) ∧
      (tl = false → (tr.length ≤ 1000000 ∧ tr.length ≤ 1000000 ∧ (sameF tr rc = true → X) ∧ (sameF tr rc = false → F)))))) :=
  have s := fun {P : Prop} (h2 : sameF tr rc = false) => same_no (P := P) e5 h2
  ⟨L1, L2, cmp_no e1, fun _ => ⟨Nat.zero_le _, cmp_no e2, fun _ => ⟨cmp_no e3, fun _ => ⟨fun h => b_no h e4, fun _ => ⟨L3, L3, fun _ => nx, fun h => s h⟩⟩⟩⟩⟩
theorem tail_yes {te w th H tb B : Int} {tl : Bool} {mr kp tr rc : List Value} {X F : Prop} (L1 : mr.length ≤ 1000000) (L2 : kp.length ≤ 1000000) (e1 : te = w) (e2 : th = H) (e3 : tb = B) (e4 : tl = true) (e5 : tr = rc) (L3 : tr.length ≤ 1000000) (nx : X) :
    mr.length ≤ 1000000 ∧ kp.length ≤ 1000000 ∧ ((!(te == w)) = true → F) ∧ ((!(te == w)) = false → ([] : List Int).length ≤ 1000000 ∧ ((!(th == H)) = true → F) ∧ ((!(th == H)) = false → ((!(tb == B)) = true → F) ∧ ((!(tb == B)) = false → (tl = true → (tr.length ≤ 1000000 ∧ tr.length ≤ 1000000 ∧ (sameF tr rc = true → X) ∧ (sameF tr rc = false → F))) ∧
      (tl = false → F)))) :=
  have s := fun {P : Prop} (h2 : sameF tr rc = false) => same_no (P := P) e5 h2
  ⟨L1, L2, cmp_no e1, fun _ => ⟨Nat.zero_le _, cmp_no e2, fun _ => ⟨cmp_no e3, fun _ => ⟨fun _ => ⟨L3, L3, fun _ => nx, fun h => s h⟩, fun h => b_no e4 h⟩⟩⟩⟩
theorem mpIn_ok {hs rows raw : List Value} {d13 : MpL} {kp : List Value} {ri : Bool} {i : Nat} (hI : d13.mh = d13.h ∧ d13.mb = d13.b ∧ d13.mr = d13.rc ∧ d13.ml = d13.hal ∧ d13.rc.length ≤ 12) (hi : d13.i = i) (h20 : i < 20) (hh : i < hs.length) (hr : i < rows.length) (hk : KpOk kp) (hri : ri = rightF mayF kp) :
    mpIn kvF stF miF hs rows raw (mpI hs rows) (fun d => (20 - d.i).toNat) (mpJ hs rows) (fun d => (d.n - d.j).toNat) d13 kp ri := by
  obtain ⟨h, b, hal, rc, di, mh, mb, mr, ml⟩ := d13
  obtain ⟨e1, e2, e3, e4, e5⟩ := hI
  dsimp only at e1 e2 e3 e4 e5 hi
  subst e1 e2 e3 e4 hi hri
  unfold mpIn
  dsimp only
  refine ⟨{ h := mh, b := mb, hal := ml, rc := mr, i := (i : Int), ri := rightF mayF kp, kp := kp, n := ((List.length kp) : Int), j := (0 : Int), mh := mh, mb := mb, mr := mr, ml := ml, kq := (1 : Int), kh := (kvF.wi (eI hs (Int.toNat (i : Int))) (0 : Int) (12 : Int)) }, rfl, ⟨rfl, rfl, rfl, rfl, e5, ⟨i, rfl, h20, hh, hr⟩, hk, rfl, 0, rfl, Nat.zero_le _, (Bool.and_true _).symm⟩, fun ⟨h, b, hal, rc, di, mh, mb, mr, ml, kq, kh, kp, ri, n, j⟩ => fun ⟨e1, e2, e3, e4, e5, ⟨i2, hi2, _, _, _⟩, hk, hn, j, hj, hle, hri⟩ => fun hgh => ?_⟩
  dsimp only at e1 e2 e3 e4 e5 hi2 hk hn hj hle hri hgh
  have hgh : di = (i : Int) := by injection hgh with h1; injection h1
  have e12 : i2 = i := by omega
  subst e12 hi2
  subst e1 e2 e3 e4 hn hj hri
  dsimp only
  have hkl := hk.1
  refine ⟨fun h3 => ?_, fun h10 => ?_⟩
  · have h3 := of_decide_eq_true h3
    have hlt : j < kp.length := by omega
    rw [Int.toNat_natCast]
    have hms : Nat.le (Nat.succ (((kp.length : Int) - ((j : Int) + 1)).toNat)) ((kp.length : Int) - (j : Int)).toNat := by
      show ((kp.length : Int) - ((j : Int) + 1)).toNat + 1 ≤ ((kp.length : Int) - (j : Int)).toNat
      omega
    have nxt : ∀ r : Bool, r = (rightF mayF kp && stkUp kp (j + 1)) → mpJ hs rows { h := mh, b := mb, hal := ml, rc := mr, i := (i2 : Int), ri := r, kp := kp, n := (kp.length : Int), j := ((j : Int) + (1 : Int)), mh := mh, mb := mb, mr := mr, ml := ml, kq := kq, kh := kh } := fun r hr2 =>
      ⟨rfl, rfl, rfl, rfl, e5, ⟨i2, rfl, h20, hh, hr⟩, hk, rfl, j + 1, by show (j : Int) + 1 = _; omega, hlt, hr2⟩
    have hup : stkUp kp (j + 1) = (stkUp kp j && isF (kP kp j)) := rfl
    refine ⟨by omega, ⟨fun h4 => ⟨fun h5 => ⟨⟨⟨by omega, of_decide_eq_true h5⟩, trivial⟩, ⟨fun h6 => ⟨by omega, ⟨{ h := mh, b := mb, hal := ml, rc := mr, i := (i2 : Int), ri := true, kp := kp, n := (kp.length : Int), j := ((j : Int) + (1 : Int)), mh := mh, mb := mb, mr := mr, ml := ml, kq := kq, kh := kh }, rfl, hms, rfl, nxt true ?_⟩⟩, fun h7 => ⟨by omega, ⟨{ h := mh, b := mb, hal := ml, rc := mr, i := (i2 : Int), ri := false, kp := kp, n := (kp.length : Int), j := ((j : Int) + (1 : Int)), mh := mh, mb := mb, mr := mr, ml := ml, kq := kq, kh := kh }, rfl, hms, rfl, nxt false ?_⟩⟩⟩⟩, fun h8 => ⟨by omega, ⟨{ h := mh, b := mb, hal := ml, rc := mr, i := (i2 : Int), ri := false, kp := kp, n := (kp.length : Int), j := ((j : Int) + (1 : Int)), mh := mh, mb := mb, mr := mr, ml := ml, kq := kq, kh := kh }, rfl, hms, rfl, nxt false ?_⟩⟩⟩, fun h9 => ⟨by omega, ⟨{ h := mh, b := mb, hal := ml, rc := mr, i := (i2 : Int), ri := false, kp := kp, n := (kp.length : Int), j := ((j : Int) + (1 : Int)), mh := mh, mb := mb, mr := mr, ml := ml, kq := kq, kh := kh }, rfl, hms, rfl, nxt false ?_⟩⟩⟩⟩
    · have h5 : decide ((2 : Int) ≤ (lenB (kP kp j) : Int)) = true := h5
      have h6 : eqB (std.ssub (kP kp j) 0 2) sB = true := h6
      have : isF (kP kp j) = true := by unfold isF; rw [h5, h6]; rfl
      rw [hup, this, Bool.and_true]; exact h4.symm
    · have h7 : eqB (std.ssub (kP kp j) 0 2) sB = false := h7
      have : isF (kP kp j) = false := by unfold isF; rw [h7]; simp
      rw [hup, this]; simp
    · have h8 : decide ((2 : Int) ≤ (lenB (kP kp j) : Int)) = false := h8
      have : isF (kP kp j) = false := by unfold isF; rw [h8]; rfl
      rw [hup, this]; simp
    · have h9 : (rightF mayF kp && stkUp kp j) = false := h9
      rw [hup, ← Bool.and_assoc, h9]; rfl
  · have h10 := of_decide_eq_false h10
    have hj : j = kp.length := by omega
    subst hj
    have hvals : ∀ i26 : Nat, i26 < kp.length → std.slen (vP kp i26) ≤ 9223372036854775807 := fun i26 h => by
      rw [vP_get h]; exact hk.2 _ (List.getElem_mem h)
    have nx : ∀ (h b : Int) (hal : Bool) (rc : List Value), rc.length ≤ 12 → miF.th mh kh kp = h → miF.tb mh mb kh kp = b → miF.tr mh mr kh kp = rc → miF.tl mh ml kh kp = hal →
        (-9223372036854775808 ≤ (i2 : Int) + 1 ∧ (i2 : Int) + 1 ≤ 9223372036854775807) ∧ ∃ d35 : MpL, [(Filler.dl hs), (Filler.dl rows), (Filler.dl raw), (Filler.val (Value.int IntKind.i64 (d35.h))), (Filler.val (Value.int IntKind.i64 (d35.b))), (Filler.val (Value.bool (d35.hal))), (Filler.dl (d35.rc)), (Filler.val (Value.int IntKind.i64 (d35.i))), (Filler.val (Value.int IntKind.i64 (d35.mh))), (Filler.val (Value.int IntKind.i64 (d35.mb))), (Filler.dl (d35.mr)), (Filler.val (Value.bool (d35.ml)))] =
          [(Filler.dl hs), (Filler.dl rows), (Filler.dl raw), (Filler.val (Value.int IntKind.i64 h)), (Filler.val (Value.int IntKind.i64 b)), (Filler.val (Value.bool hal)), (Filler.dl rc), (Filler.val (Value.int IntKind.i64 ((i2 : Int) + 1))), (Filler.val (Value.int IntKind.i64 (miF.th mh kh kp))), (Filler.val (Value.int IntKind.i64 (miF.tb mh mb kh kp))), (Filler.dl (miF.tr mh mr kh kp)), (Filler.val (Value.bool (miF.tl mh ml kh kp)))] ∧ Nat.le (Nat.succ (20 - d35.i).toNat) (20 - (i2 : Int)).toNat ∧ mpI hs rows d35 := fun h b hal rc hl a1 a2 a3 a4 => by
      refine ⟨by omega, ⟨{ h := h, b := b, hal := hal, rc := rc, i := (i2 : Int) + 1, mh := miF.th mh kh kp, mb := miF.tb mh mb kh kp, mr := miF.tr mh mr kh kp, ml := miF.tl mh ml kh kp }, rfl, ?_, ⟨a1, a2, a3, a4, hl, i2 + 1, by show (i2 : Int) + 1 = _; omega, by omega, by omega, by omega⟩⟩⟩
      show (20 - ((i2 : Int) + 1)).toNat + 1 ≤ (20 - (i2 : Int)).toNat
      omega
    -- what is answered
    have te0 : ∀ e, teF mh kh kp = e → e ≠ 0 → e ≠ 10 → miF.th mh kh kp = mh ∧ miF.tb mh mb kh kp = mb ∧ miF.tr mh mr kh kp = mr ∧ miF.tl mh ml kh kp = ml := fun e he h0 h10 => by
      show (if teF mh kh kp = 0 then kh else mh) = _ ∧ (if teF mh kh kp = 0 then bckF kp else mb) = _ ∧ (if teF mh kh kp = 0 then kp else mr) = _ ∧ (if teF mh kh kp = 0 then false else if teF mh kh kp = 10 then true else ml) = _
      rw [he, if_neg h0, if_neg h0, if_neg h0, if_neg h0, if_neg h10]
      exact ⟨rfl, rfl, rfl, rfl⟩
    have ri1 : (rightF mayF kp && stkUp kp kp.length) = true → rightF mayF kp = true ∧ decide (0 ≤ idxF kp) = false := fun h => by
      rw [Bool.and_eq_true] at h
      exact ⟨h.1, by rw [idx_up, h.2]; rfl⟩
    have ri0 : (rightF mayF kp && stkUp kp kp.length) = false → teF mh kh kp = 1 := fun h => by
      unfold teF
      rw [idx_up]
      cases h1 : rightF mayF kp
      · rfl
      · rw [h1, Bool.true_and] at h
        rw [h]; rfl
    have same4 : ∀ e, teF mh kh kp = e → e ≠ 0 → e ≠ 10 → _ := fun e he h0 h10 =>
      have q := te0 e he h0 h10
      tail_any (F := [Value.bool false] = [Value.bool true]) (mr := mr) (kp := kp) (by omega) (by omega) he q.1 q.2.1 q.2.2.2 q.2.2.1 (by rw [q.2.2.1]; omega) (nx mh mb ml mr e5 q.1 q.2.1 q.2.2.1 q.2.2.2)
    refine ⟨⟨by omega, hvals⟩, ⟨fun h12 => ⟨fun h13 => ⟨fun h14 => same4 8 ?_ (by decide) (by decide), fun h31 => ?_⟩, fun h42 => same4 1 (ri0 h42) (by decide) (by decide)⟩, fun h59 => ⟨fun h60 => ⟨fun h61 => same4 8 ?_ (by decide) (by decide), fun h78 => ?_⟩, fun h88 => same4 1 (ri0 h88) (by decide) (by decide)⟩⟩⟩
    · obtain ⟨r1, r2⟩ := ri1 h13
      unfold teF; rw [r1, r2, h14]; rfl
    · obtain ⟨r1, r2⟩ := ri1 h13
      have h12 : bokF kp = true := h12
      have he : teF mh kh kp = 0 := by unfold teF; rw [r1, r2, h31, h12]; rfl
      have q : miF.th mh kh kp = kh ∧ miF.tb mh mb kh kp = bckF kp ∧ miF.tr mh mr kh kp = kp ∧ miF.tl mh ml kh kp = false := by
        show (if teF mh kh kp = 0 then kh else mh) = _ ∧ (if teF mh kh kp = 0 then bckF kp else mb) = _ ∧ (if teF mh kh kp = 0 then kp else mr) = _ ∧ (if teF mh kh kp = 0 then false else if teF mh kh kp = 10 then true else ml) = _
        rw [he]; exact ⟨rfl, rfl, rfl, rfl⟩
      exact tail_no (by omega) (by omega) he q.1 q.2.1 q.2.2.2 q.2.2.1 (by rw [q.2.2.1]; omega) (nx kh (bckF kp) false kp hk.1 q.1 q.2.1 q.2.2.1 q.2.2.2)
    · obtain ⟨r1, r2⟩ := ri1 h60
      unfold teF; rw [r1, r2, h61]; rfl
    · obtain ⟨r1, r2⟩ := ri1 h60
      have h59 : bokF kp = false := h59
      have he : teF mh kh kp = 10 := by unfold teF; rw [r1, r2, h78, h59]; rfl
      have q : miF.th mh kh kp = mh ∧ miF.tb mh mb kh kp = mb ∧ miF.tr mh mr kh kp = mr ∧ miF.tl mh ml kh kp = true := by
        show (if teF mh kh kp = 0 then kh else mh) = _ ∧ (if teF mh kh kp = 0 then bckF kp else mb) = _ ∧ (if teF mh kh kp = 0 then kp else mr) = _ ∧ (if teF mh kh kp = 0 then false else if teF mh kh kp = 10 then true else ml) = _
        rw [he]; exact ⟨rfl, rfl, rfl, rfl⟩
      exact tail_yes (by omega) (by omega) he q.1 q.2.1 q.2.2.2 q.2.2.1 (by rw [q.2.2.1]; omega) (nx mh mb true mr e5 q.1 q.2.1 q.2.2.1 q.2.2.2)
theorem kp_of {l : List Value} {n : Nat} (hn : l.length ≤ n) (h12 : n ≤ 12) (hv : ∀ x ∈ l, lenB (valV x) ≤ 24) : KpOk l := ⟨by omega, fun x hx => by have := hv x hx; omega⟩
theorem mp_run (hs rows raw : List Value) (hh : IntsOk hs) (hr : RowsOk rows) (hw : ∀ x ∈ raw, lenB (valV x) ≤ 9223372036854775807) : Holds (runP std (mpCon std kvF stF miF) 90 (mpLs hs rows raw (mpI hs rows) (fun d => (20 - d.i).toNat) (mpJ hs rows) (fun d => (d.n - d.j).toNat)) mpP 6 Try.f6 (hs, rows, raw, ())) := by
  constructor
  rw [mp_vc]
  unfold mp_vc_L7
  refine ⟨{ h := (0 : Int), b := (0 : Int), hal := false, rc := [], i := (0 : Int), mh := (0 : Int), mb := (0 : Int), mr := [], ml := false }, rfl, ⟨rfl, rfl, rfl, rfl, Nat.zero_le _, 0, rfl, by omega, Nat.zero_le _, Nat.zero_le _⟩, fun d13 => fun ⟨e1, e2, e3, e4, e5, i, hi, h20, hih, hir⟩ => ⟨fun h2 => ⟨fun h3 => ⟨fun h4 => ?_, fun h22 => rfl⟩, fun h23 => rfl⟩, fun h24 => rfl⟩⟩
  have h2 := of_decide_eq_true h2
  have h3 := of_decide_eq_true h3
  have h4 := of_decide_eq_true h4
  have b1 : i < hs.length := by omega
  have b2 : i < rows.length := by omega
  have b3 : i < 20 := by omega
  have go : ∀ {kp : List Value} {ri : Bool}, KpOk kp → rightF mayF kp = ri → mpIn kvF stF miF hs rows raw (mpI hs rows) (fun d => (20 - d.i).toNat) (mpJ hs rows) (fun d => (d.n - d.j).toNat) d13 kp ri := fun hk hri => mpIn_ok ⟨e1, e2, e3, e4, e5⟩ hi b3 b1 b2 hk hri.symm
  have go2 : ∀ {kp : List Value} {ri : Bool}, KpOk kp → rightF rmayF kp = ri → mpIn kvF stF miF hs rows raw (mpI hs rows) (fun d => (20 - d.i).toNat) (mpJ hs rows) (fun d => (d.n - d.j).toNat) d13 kp ri := fun hk hri => by
    have : rmayF = mayF := by funext k v; exact may_rmay k v
    rw [this] at hri
    exact go hk hri
  have hrow := hr i b2
  have hpr := pairs_right (rowAt rows i)
  have hkp : KpOk (pairsF (rowAt rows i)) := by
    have h1 : (pairsF (rowAt rows i)).length ≤ 12 := outL_len (esF (rowAt rows i) (min (rowAt rows i).length 12)) 12
    refine ⟨h1, fun x hx => ?_⟩
    obtain ⟨j, hj, rfl⟩ := List.mem_iff_getElem.1 hx
    have := (key_small hpr hj).2
    rw [vP_get hj] at this
    omega
  have hkr : KpOk (recL (rowAt rows i) (rowAt rows i).length) := kp_of (recL_len _ _).1 (by omega) (recL_vals _ _)
  have hkw : KpOk (List.take ((Int.toNat (std.imin ((List.length raw) : Int) (4 : Int))) - 0) (List.drop 0 raw)) := by
    refine ⟨?_, fun x hx => hw x (List.mem_of_mem_drop (List.mem_of_mem_take hx))⟩
    rw [List.length_take]
    have : std.imin ((List.length raw) : Int) 4 = if (4 : Int) < ((List.length raw) : Int) then 4 else ((List.length raw) : Int) := rfl
    rw [this]
    split <;> omega
  have hkwl := hkw.1
  have hkpl := hkp.1
  have hkrl := hkr.1
  have him : (0 : Int) ≤ std.imin ((List.length raw) : Int) 4 ∧ std.imin ((List.length raw) : Int) 4 ≤ ((List.length raw) : Int) := by
    have : std.imin ((List.length raw) : Int) 4 = if (4 : Int) < ((List.length raw) : Int) then 4 else ((List.length raw) : Int) := rfl
    rw [this]
    split <;> omega
  rw [hi, Int.toNat_natCast]
  have w1 : ((-9223372036854775808 : Int) ≤ eI hs i ∧ eI hs i ≤ 9223372036854775807) ∧ (-1000000000000 : Int) ≤ 0 ∧ (0 : Int) ≤ 12 ∧ (12 : Int) ≤ 2000000000000 := ⟨hh i b1, by omega, by omega, by omega⟩
  have r1 : (0 : Int) ≤ (i : Int) ∧ (i : Int) < (rows.length : Int) := by omega
  have hint : ∀ i20 : Nat, i20 < (rowAt rows i).length → -9223372036854775808 ≤ eI (rowAt rows i) i20 ∧ eI (rowAt rows i) i20 ≤ 9223372036854775807 := hrow.2
  have l1 : (pairsF (rowAt rows i)).length ≤ 1000000 := by omega
  have l2 : (recL (rowAt rows i) (rowAt rows i).length).length ≤ 1000000 := by omega
  have l3 : (List.take ((Int.toNat (std.imin ((List.length raw) : Int) (4 : Int))) - 0) (List.drop 0 raw)).length ≤ 1000000 := by omega
  have hi0 : (0 : Int) ≤ (i : Int) ∧ (i : Int) < (hs.length : Int) := by omega
  exact ⟨hi0, ⟨w1, ⟨r1, ⟨hrow, ⟨by omega, ⟨fun h6 => ⟨⟨him, trivial⟩, ⟨by omega, ⟨fun h7 => ⟨r1, ⟨hint, ⟨l1, ⟨fun h9 => go2 hkp h9, fun h10 => go2 hkp h10⟩⟩⟩⟩, fun h11 => ⟨l3, ⟨fun h12 => go2 hkw h12, fun h13 => go2 hkw h13⟩⟩⟩⟩⟩, fun h14 => ⟨by omega, ⟨fun h15 => ⟨r1, ⟨hint, ⟨l1, ⟨fun h17 => go2 hkp h17, fun h18 => go2 hkp h18⟩⟩⟩⟩, fun h19 => ⟨l2, ⟨fun h20 => go2 hkr h20, fun h21 => go2 hkr h21⟩⟩⟩⟩⟩⟩⟩⟩⟩⟩
theorem miRuns_closed : (callN vbeq Try.prog X0 1000 3 [] H0).map (·.1) = some (.bool true) := by rw [callF_eq]; kernel_rfl
theorem mpCon_ok : ConOk Try.prog (mpCon std kvF stF miF) := draw_ok (conL_ok fun x hx => by
  simp only [List.mem_cons, List.not_mem_nil, or_false] at hx
  rcases hx with rfl | rfl | rfl | rfl | rfl | rfl | rfl | rfl
  · exact take_ok.sem
  · exact copy_ok.sem
  · exact recO_ok.sem
  · exact pcon_ok pairs_ok
  · exact pcon_ok rright_ok
  · exact pcon_ok rbck_ok
  · exact pcon_ok same_ok
  · exact closedC_ok (knownOk_none _) Try.func3 (show _ = some (bodyS Try.prog 3) by kernel_rfl) rfl miRuns_closed) fun x hx => by
  simp only [List.mem_cons, List.not_mem_nil, or_false] at hx
  rcases hx with rfl | rfl
  · exact dcon_ok rfl wi_ok
  · exact dcon_ok rfl recs_ok
noncomputable def mpQ : PF := pf (.cons cIs (.cons cRows (.cons cP .nil))) (fun d => IntsOk d.1 ∧ RowsOk d.2.1 ∧ ∀ x ∈ d.2.2.1, lenB (valV x) ≤ 9223372036854775807) [.bool false] fun _ => [.bool true]
theorem mp_ok : PFOk Try.prog 6 mpQ :=
  pf_ok (LS := fun d => mpLs d.1 d.2.1 d.2.2.1 (mpI d.1 d.2.1) (fun d => (20 - d.i).toNat) (mpJ d.1 d.2.1) (fun d => (d.n - d.j).toNat)) Try.progOk mpCon_ok (inCallF_ok 60) mpQ Try.func6 (show _ = some (bodyS Try.prog 6) by kernel_rfl) fun d hd => by
    obtain ⟨xs, rs, ws, u⟩ := d
    obtain ⟨h⟩ := mp_run xs rs ws hd.1 hd.2.1 hd.2.2
    exact h
theorem rows_ok {l : List Value} (h : ∀ x ∈ l, RawOk (dsl zI []) x) : RowsOk l := fun i hi => by
  have := h _ (List.getElem_mem hi)
  generalize hx : l[i] = x at this
  cases this with
  | sl h1 h2 =>
    rename_i xs
    have e : rowAt l i = xs := by
      show std.dels (std.get _ l i) = xs
      have e2 : std.get (Value.func (Go.Fn.yield 1) #[Value.int .i64 0] #[]) l i = dsl zI xs := by
        show (l[i]?).getD _ = _
        rw [List.getElem?_eq_getElem hi, hx]; rfl
      rw [e2]; rfl
    rw [e]
    exact ⟨h1, sl_ints h2⟩
theorem raw_vals {l : List Value} (h : ∀ x ∈ l, RawOk zP x) : ∀ x ∈ l, lenB (valV x) ≤ 9223372036854775807 := fun x hx => by
  have := h x hx
  have hz : zP = .agg ([.string ⟨#[]⟩, .string ⟨#[]⟩] : List Value).toArray := rfl
  rw [hz] at this
  generalize hg : Value.agg ([.string ⟨#[]⟩, .string ⟨#[]⟩] : List Value).toArray = z at this
  cases this with
  | agg hl hu =>
    rename_i zs us
    have hg2 : zs = [.string ⟨#[]⟩, .string ⟨#[]⟩] := by
      injection hg with h1
      have := congrArg Array.toList h1
      simpa using this.symm
    subst hg2
    match us, hl with
    | [a, b], _ =>
      have := hu 1 _ _ rfl rfl
      cases this with
      | str hs => exact hs
  | _ => cases hg
theorem mirrorPlays_calls (w : World) (v0 : Value) (h0 : SlIn w zI v0) (v1 : Value) (h1 : SlIn w (dsl zI []) v1) (v2 : Value) (h2 : SlIn w zP v2) : Calls Try.prog 6 #[v0, v1, v2] w fun e w' => Below w.heap.size w w' ∧ e = .returned (.bool true) := by
  obtain ⟨l0, _, i0, d0⟩ := h0
  obtain ⟨l1, _, i1, d1⟩ := h1
  obtain ⟨l2, _, i2, d2⟩ := h2
  exact law_pf Try.progOk Try.func6 (show _ = some (bodyS Try.prog 6) by kernel_rfl) mp_ok rfl (d := (l0, l1, l2, ())) ⟨sl_ints i0, rows_ok i1, raw_vals i2⟩ rfl (xs := [dsl zI l0, dsl (dsl zI []) l1, dsl zP l2]) (by kernel_rfl) (All2.cons d0 (All2.cons d1 (All2.cons d2 All2.nil)))
set_option maxRecDepth 100000 in
theorem mirrorPlays_lifted (os : Os) (started : os.Started) (H : Type) (enc : TypeId × Value → H) :
    ReturnsInHanded {} Try.checked os 6 .any (Rows.mirrorPlaysSpec.pre6 enc Try.prog Try.f6 Rows.mirrorPlaysRow.domain false) (Rows.mirrorPlaysSpec.post enc Try.prog Try.f6 false true false false) := by
  refine returnsInHanded_of_change (C := Try.checked) Try.own started (by kernel_rfl) Try.func6
    (ChangeSpec.witness6 (enc := enc) (C := Try.checked) false ⟨#[], #[.slice none 0 0, .slice none 0 0, .slice none 0 0], []⟩ 40 (by kernel_rfl) (by kernel_rfl) (by kernel_rfl) (by kernel_rfl)) ?_
  intro W base args ds gs before hval0 hW hcnd _
  have hval : ∀ (j : Nat) t v, Try.f6.params[j]? = some t → args[j]? = some v → Value.okWide Try.prog W .any base t v := hval0
  have hW' := hW
  obtain ⟨p, q, hA0, hV, rfl, hfz, hnd⟩ := hW
  have hA : DataW.TrodAll enc Try.prog W 0 (fun _ => true) true Try.f6.params.toList args.toList ds p := hA0
  rw [Try.params6] at hA hval
  have hAk := hA
  obtain ⟨v0, v1, v2, d0, d1, d2, p0, p1, p2, rfl, rfl, rfl, h0, h1, h2⟩ := trodAll_three' hA
  obtain ⟨rfl, rfl⟩ := trodVars_none hV
  have in0 : SlIn W zI v0 := arg_slice (n := 8) (by kernel_rfl) (by decide +kernel) Try.underlying35 (by kernel_rfl) (hval 0 35 v0 rfl rfl) h0
  have in1 : SlIn W (dsl zI []) v1 := arg_slice (n := 8) (by kernel_rfl) (by decide +kernel) Try.underlying40 (by kernel_rfl) (hval 1 40 v1 rfl rfl) h1
  have in2 : SlIn W zP v2 := arg_slice (n := 8) (by kernel_rfl) (by decide +kernel) Try.underlying29 (by kernel_rfl) (hval 2 29 v2 rfl rfl) h2
  clear hA0 hval0
  have hlt : ∀ x ∈ p0 ++ p1 ++ p2 ++ ([] : List MemPlace), x.block < W.heap.size := fun x hx => hW'.lt x (by simpa using hx)
  refine (mirrorPlays_calls W v0 in0 v1 in1 v2 in2).mono fun e W' ⟨hb, he⟩ => ?_
  subst he
  exact ⟨_, rfl, post_below (pa := p0 ++ p1 ++ p2 ++ []) (pv := []) hW' (fun _ _ _ => trodAll_mk1 (shut_bool Try.underlying4 true)) (fun sp hsp => trodAll_stays (by kernel_rfl) hb (by decide +kernel) hAk hlt (fun x hx => hsp x (by simpa using hx))) (fun _ _ => rfl) (by simp) hb (ok_one (by kernel_rfl) rfl (okWide_bool_mk Try.underlying4 true))⟩

theorem mirrorPlays_holds : Rows.MirrorPlaysSaid :=
  OpenClaim.holds_of_wide 6 Try.f6 rfl rfl rfl rfl rfl rfl rfl ⟨rfl, rfl, rfl, rfl, rfl⟩ rfl rfl rfl rfl rfl (by kernel_rfl) Try.func6 (by kernel_rfl)
    (of_decide_eq_true (by kernel_rfl)) (by unfold Func.isWrapper; first | (rw [if_pos (by decide +kernel)]; kernel_rfl) | (rw [if_neg (by decide +kernel)]; exact ⟨rfl, rfl⟩))
    (fun os started H enc _ => mirrorPlays_lifted os started H enc)
end Go.Proofs.Ytmhfnbbamoadgaa
end
