/-
  MirrorBack: the program's law is true for all numbers, and what was there stays as it was. No conditions.
-/
import Derived.Test.YtmhfnbbamoadgaaBakV
import Derived.Test.YtmhfnbbamoadgaaAbs51
import Derived.Test.YtmhfnbbamoadgaaAbs42
namespace Go.Proofs.Ytmhfnbbamoadgaa
open Go.ChangeShapes Go.WideShapes Go.ChangeAt Go.RowKit Go.Abs

theorem mirrorRuns_run : (callN vbeq Try.prog X0 60 3 [] H0).map (·.1) = some (.bool true) := by
  rw [callF_eq]
  kernel_rfl
theorem mirrorRuns_body : ∃ c, Try.f3.body = some c := ⟨_, rfl⟩
set_option maxRecDepth 100000 in
theorem readX_ok : ∀ args h K, readX std recOf args h K → CallSem Try.prog 52 args h K := by
  intro args h K e
  unfold readX at e
  split at e
  case h_2 => exact e.elim
  split at e
  · exact readC_ok _ _ _ e
  · exact text_sem Try.progOk (noCon_ok _) (inCallF_ok 60) Try.func52 read_body e
set_option maxRecDepth 100000 in
theorem bakCon_ok (l : List (Nat × BinOp × Bool × Bool)) : ConOk Try.prog (bakCon std recOf l) := by
  obtain ⟨c, hc⟩ := mirrorRuns_body
  refine draw_ok (tellG_ok (conL_ok fun x hx => ?_) _) fun x hx => ?_
  · simp only [List.mem_cons, List.not_mem_nil, or_false] at hx
    rcases hx with rfl | rfl | rfl | rfl | rfl
    · exact withinC_ok
    · exact recC_ok
    · exact readX_ok
    · exact mayC_ok
    · exact closedC_ok (knownOk_none Try.prog) Try.func3 hc rfl mirrorRuns_run
  · simp only [List.mem_cons, List.not_mem_nil, or_false] at hx
    subst hx
    exact mayD_ok
theorem imax_max (a b : Int) : std.imax a b = max a b := by show (if b > a then b else a) = max a b; split <;> omega
def bakI0 (n : Nat) (d : Bak) : Prop := (-9223372036854775808 ≤ d.a ∧ d.a ≤ 9223372036854775807) ∧ (d.high = 0 ∧ d.back = 0) ∧ (d.hh = 0 ∧ d.bb = 0) ∧ (0 ≤ d.i ∧ d.i ≤ 14) ∧ d.i ≤ (n : Int)
def bakI1 (n : Nat) (d : BakR) : Prop := (-9223372036854775808 ≤ d.a ∧ d.a ≤ 9223372036854775807) ∧ (1 ≤ d.high ∧ d.high ≤ 12) ∧ (0 ≤ d.back ∧ d.back ≤ 2000) ∧ (d.hh = d.high ∧ d.bb = d.back) ∧ (0 ≤ d.i ∧ d.i ≤ 14) ∧ d.i ≤ (n : Int)
def bakM0 (d : Bak) : Nat := (14 - d.i).toNat
def bakM1 (d : BakR) : Nat := (14 - d.i).toNat
set_option maxHeartbeats 8000000 in
theorem bakN_run (zs : List Int) (n : Nat) (a : Int) (hn : n ≤ zs.length) (ha : -9223372036854775808 ≤ a ∧ a ≤ 9223372036854775807) (hz : ∀ j, -9223372036854775808 ≤ std.get (0 : Int) zs j ∧ std.get (0 : Int) zs j ≤ 9223372036854775807) :
    lawV std Try.prog (bakNCons std recOf) (inCallF 60) 90 (bakLs (.one (.zero (.lit (.slice none 0 0)))) [] 1 [] [] zs n (bakI0 n) (bakI1 n) bakM0 bakM1) Try.f4 (bodyS Try.prog 4) [mk (.slice (some ⟨0, 0, none⟩) n (UNK0 + 1)), .slice none 0 0, mk (.int .i64 a)] (inH [some (.row (.ints .i64 zs) true)]) (fun v _ => v = .bool true) := by
  rw [bakN_vc]
  simp only [imax_max]
  repeat' first
    | (intro (d : Bak); obtain ⟨aa, high, back, i, hh, bb⟩ := d; dsimp only [bakI0])
    | (intro (d : BakR); obtain ⟨aa, high, back, i, hh, bb, s⟩ := d; dsimp only [bakI1])
    | (refine Exists.intro (Bak.mk _ _ _ _ _ _) (And.intro rfl ?_))
    | (refine Exists.intro (BakR.mk _ _ _ _ _ _ _) (And.intro rfl ?_))
    | (refine And.intro ?_ ?_)
    | (refine ⟨_, _, ⟨?_, rfl⟩, ?_⟩)
    | (intro q; simp only [decide_eq_true_eq] at q)
    | (intro q; simp only [decide_eq_false_iff_not] at q)
    | (intro q; simp only [Bool.not_eq_true', beq_eq_false_iff_ne, ne_eq] at q)
    | (intro q; simp only [Bool.not_eq_false', beq_iff_eq] at q)
    | (intro q)
  all_goals first
    | exact trivial
    | rfl
    | omega
    | exact (hz _).1
    | exact (hz _).2
    | (dsimp only; omega)
    | (refine decide_eq_true ?_; omega)
    | (refine decide_eq_false ?_; omega)
    | exact Nat.le_trans (rec_short _ _) (by omega)
    | exact Nat.le_of_ble_eq_true rfl
    | (exfalso; omega)
    | exact absurd trivial ‹¬True›
    | (show bakM0 _ < bakM0 _; dsimp only [bakM0]; omega)
    | (show bakM1 _ < bakM0 _; dsimp only [bakM0, bakM1]; omega)
    | (show bakM1 _ < bakM1 _; dsimp only [bakM1]; omega)
    | skip
set_option maxHeartbeats 8000000 in
theorem bakE_run (zs : List Int) (n : Nat) (a : Int) (hn : n ≤ zs.length) (ha : -9223372036854775808 ≤ a ∧ a ≤ 9223372036854775807) (hz : ∀ j, -9223372036854775808 ≤ std.get (0 : Int) zs j ∧ std.get (0 : Int) zs j ≤ 9223372036854775807) :
    lawV std Try.prog (bakNCons std recOf) (inCallF 60) 90 (bakLs (.one (.zero (.csl 1 0 0 0))) [none] 2 [] [] zs n (bakI0 n) (bakI1 n) bakM0 bakM1) Try.f4 (bodyS Try.prog 4) [mk (.slice (some ⟨0, 0, none⟩) n (UNK0 + 1)), .slice (some ⟨1, 0, none⟩) 0 0, mk (.int .i64 a)] (inH [some (.row (.ints .i64 zs) true), none]) (fun v _ => v = .bool true) := by
  rw [bakE_vc]
  simp only [imax_max]
  repeat' first
    | (intro (d : Bak); obtain ⟨aa, high, back, i, hh, bb⟩ := d; dsimp only [bakI0])
    | (intro (d : BakR); obtain ⟨aa, high, back, i, hh, bb, s⟩ := d; dsimp only [bakI1])
    | (refine Exists.intro (Bak.mk _ _ _ _ _ _) (And.intro rfl ?_))
    | (refine Exists.intro (BakR.mk _ _ _ _ _ _ _) (And.intro rfl ?_))
    | (refine And.intro ?_ ?_)
    | (refine ⟨_, _, ⟨?_, rfl⟩, ?_⟩)
    | (intro q; simp only [decide_eq_true_eq] at q)
    | (intro q; simp only [decide_eq_false_iff_not] at q)
    | (intro q; simp only [Bool.not_eq_true', beq_eq_false_iff_ne, ne_eq] at q)
    | (intro q; simp only [Bool.not_eq_false', beq_iff_eq] at q)
    | (intro q)
  all_goals first
    | exact trivial
    | rfl
    | omega
    | exact (hz _).1
    | exact (hz _).2
    | (dsimp only; omega)
    | (refine decide_eq_true ?_; omega)
    | (refine decide_eq_false ?_; omega)
    | exact Nat.le_trans (rec_short _ _) (by omega)
    | exact Nat.le_of_ble_eq_true rfl
    | (exfalso; omega)
    | exact absurd trivial ‹¬True›
    | (show bakM0 _ < bakM0 _; dsimp only [bakM0]; omega)
    | (show bakM1 _ < bakM0 _; dsimp only [bakM0, bakM1]; omega)
    | (show bakM1 _ < bakM1 _; dsimp only [bakM1]; omega)
    | skip
set_option maxHeartbeats 8000000 in
theorem bakR_run (zs : List Int) (n : Nat) (os : List Bool) (l : Nat) (a : Int) (hn : n ≤ zs.length) (hl : l ≤ os.length) (ha : -9223372036854775808 ≤ a ∧ a ≤ 9223372036854775807) (hz : ∀ j, -9223372036854775808 ≤ std.get (0 : Int) zs j ∧ std.get (0 : Int) zs j ≤ 9223372036854775807) :
    lawV std Try.prog (bakCons std recOf) (inCallF 60) 90 (bakLs (.one (.zero (.sl 1 (UNK0 + 1)))) [some (.row (.bools []) true)] 2 [.sl 0 l] [.row (.bools os)] zs n (bakI0 n) (bakI1 n) bakM0 bakM1) Try.f4 (bodyS Try.prog 4) [mk (.slice (some ⟨0, 0, none⟩) n (UNK0 + 1)), mk (.slice (some ⟨1, 0, none⟩) l (UNK0 + 1)), mk (.int .i64 a)] (inH [some (.row (.ints .i64 zs) true), some (.row (.bools os) true)]) (fun v _ => v = .bool true) := by
  rw [bakR_vc]
  simp only [imax_max]
  repeat' first
    | (intro (d : Bak); obtain ⟨aa, high, back, i, hh, bb⟩ := d; dsimp only [bakI0])
    | (intro (d : BakR); obtain ⟨aa, high, back, i, hh, bb, s⟩ := d; dsimp only [bakI1])
    | (refine Exists.intro (Bak.mk _ _ _ _ _ _) (And.intro rfl ?_))
    | (refine Exists.intro (BakR.mk _ _ _ _ _ _ _) (And.intro rfl ?_))
    | (refine And.intro ?_ ?_)
    | (refine ⟨_, _, ⟨?_, rfl⟩, ?_⟩)
    | (intro q; simp only [decide_eq_true_eq] at q)
    | (intro q; simp only [decide_eq_false_iff_not] at q)
    | (intro q; simp only [Bool.not_eq_true', beq_eq_false_iff_ne, ne_eq] at q)
    | (intro q; simp only [Bool.not_eq_false', beq_iff_eq] at q)
    | (intro q)
  all_goals first
    | exact trivial
    | rfl
    | omega
    | exact (hz _).1
    | exact (hz _).2
    | (dsimp only; omega)
    | (refine decide_eq_true ?_; omega)
    | (refine decide_eq_false ?_; omega)
    | exact Nat.le_trans (rec_short _ _) (by omega)
    | exact Nat.le_of_ble_eq_true rfl
    | (exfalso; omega)
    | exact absurd trivial ‹¬True›
    | (show bakM0 _ < bakM0 _; dsimp only [bakM0]; omega)
    | (show bakM1 _ < bakM0 _; dsimp only [bakM0, bakM1]; omega)
    | (show bakM1 _ < bakM1 _; dsimp only [bakM1]; omega)
    | skip
theorem bak0_run (a : Int) : lawV std Try.prog (bakCons std recOf) (inCallF 60) 90 (fun _ => none) Try.f4 (bodyS Try.prog 4) [.slice none 0 0, dead, mk (.int .i64 a)] (inH []) (fun v _ => v = .bool true) := by
  rw [bak0_vc]
theorem bak1_run (a : Int) : lawV std Try.prog (bakCons std recOf) (inCallF 60) 90 (fun _ => none) Try.f4 (bodyS Try.prog 4) [.slice (some ⟨0, 0, none⟩) 0 0, dead, mk (.int .i64 a)] (inH [none]) (fun v _ => v = .bool true) := by
  rw [bak1_vc]
theorem mirrorBack_body : Try.f4.body = some (bodyS Try.prog 4) := by kernel_rfl
/-- What is known of slices that came in. -/
def IntsIn (w : World) (v : Value) : Prop :=
  v = .slice none 0 0 ∨ ∃ (a : Addr) (len cap : Nat) (zs : List Int), v = .slice (some a) len cap ∧ len ≤ cap ∧ zs.length = cap ∧ (∀ i, i < zs.length → w.cell? (a.add i) = some (.int .i64 (zs.getD i 0))) ∧ (∀ n ∈ zs, -9223372036854775808 ≤ n ∧ n ≤ 9223372036854775807)
def BoolsIn (w : World) (v : Value) : Prop :=
  v = .slice none 0 0 ∨ ∃ (a : Addr) (len cap : Nat) (zs : List Bool), v = .slice (some a) len cap ∧ len ≤ cap ∧ zs.length = cap ∧ (∀ i, i < zs.length → w.cell? (a.add i) = some (.bool (zs.getD i false)))
theorem in_two {base : Nat} {w : World} {x y : Pl × Option Blk} (hx : InOk base w x) (hy : InOk base w y) : ∀ z ∈ [x, y], InOk base w z := fun z hz => by
  simp only [List.mem_cons, List.not_mem_nil, or_false] at hz
  rcases hz with rfl | rfl
  · exact hx
  · exact hy
theorem in_one {base : Nat} {w : World} {x : Pl × Option Blk} (hx : InOk base w x) : ∀ z ∈ [x], InOk base w z := fun z hz => by
  rw [List.mem_singleton.1 hz]; exact hx
theorem in_nothing {base : Nat} {w : World} (p : Pl) : InOk base w (p, none) := fun b hb => by cases hb
set_option maxRecDepth 100000 in
theorem mirrorBack_calls (v0 v1 : Value) (a : Int) (ha : -9223372036854775808 ≤ a ∧ a ≤ 9223372036854775807) (w : World) (h0 : IntsIn w v0) (h1 : BoolsIn w v1) :
    Calls Try.prog 4 #[v0, v1, .int .i64 a] w fun e w' => Below w.heap.size w w' ∧ e = .returned (.bool true) := by
  have m : ∀ μ, VR μ (mk (.int .i64 a)) (.int .i64 a) := fun μ => .zero (.mark (.plain rfl) rfl)
  rcases h0 with rfl | ⟨a0, len, cap, zs, rfl, hl, hc, hcell, hwz⟩
  · exact law_callsF Try.progOk (bakCon_ok []) (inCallF_ok 60) Try.func4 mirrorBack_body (args := [.slice none 0 0, dead, mk (.int .i64 a)]) (h0 := inH []) (in_ro (l := []) (base := w.heap.size) (w := w) (fun x hx => by cases hx)) (bak0_run a)
      (μ := inMu []) (All2.cons (.plain1 rfl) (All2.cons .dead (All2.cons (m _) All2.nil))) (in_rel (l := []) (Nat.le_refl _) (fun x hx => by cases hx)) (in_free [])
  · by_cases hne : 0 < zs.length
    · obtain ⟨hs, p, hpc, hps, hN, hok⟩ := in_ints (base := w.heap.size) hne hcell
      obtain ⟨ab, ao, asp⟩ := a0
      obtain ⟨pc, ps, pN⟩ := p
      simp only at hs hpc hps hN
      subst hs; subst hpc; subst hps
      have hz : ∀ j, -9223372036854775808 ≤ std.get (0 : Int) zs j ∧ std.get (0 : Int) zs j ≤ 9223372036854775807 := by
        intro j
        show -9223372036854775808 ≤ zs.getD j 0 ∧ zs.getD j 0 ≤ 9223372036854775807
        rw [List.getD_eq_getElem?_getD]
        cases hj : zs[j]? with
        | none => simp
        | some x => exact hwz x (List.mem_of_getElem? hj)
      have hv : ∀ {μ : Mu}, μ 0 = some ⟨pc, ps, pN⟩ → VR μ (mk (.slice (some ⟨0, 0, none⟩) len (UNK0 + 1))) (.slice (some ⟨pc, ps, none⟩) len cap) := by
        intro μ hμ
        have h := VR0.slice (μ := μ) (b := 0) (o := 0) (p := ⟨pc, ps, pN⟩) (n := len) (k := UNK0 + 1) (k' := cap) hμ hl (.inl ⟨Nat.le_succ _, by show 0 + ps + cap * (UNK0 + 1 - UNK0) ≤ pN; rw [Nat.add_sub_cancel_left]; omega⟩)
        rw [Nat.zero_add] at h
        exact .zero (.mark h rfl)
      rcases h1 with rfl | ⟨a1, len1, cap1, os, rfl, hl1, hc1, hcell1⟩
      · have hall := in_one hok
        exact law_callsF Try.progOk (bakCon_ok _) (inCallF_ok 60) Try.func4 mirrorBack_body (args := [mk (.slice (some ⟨0, 0, none⟩) len (UNK0 + 1)), .slice none 0 0, mk (.int .i64 a)]) (h0 := inH [some (.row (.ints .i64 zs) true)]) (in_ro hall) (bakN_run zs len a (by omega) ha hz)
          (μ := inMu [((⟨pc, ps, pN⟩ : Pl), some (Blk.row (.ints .i64 zs) true))]) (All2.cons (hv rfl) (All2.cons (.plain1 rfl) (All2.cons (m _) All2.nil))) (in_rel (Nat.le_refl _) hall) (in_free [((⟨pc, ps, pN⟩ : Pl), some (Blk.row (.ints .i64 zs) true))])
      · by_cases hne1 : 0 < os.length
        · obtain ⟨hs1, p1, hpc1, hps1, hN1, hok1⟩ := in_bools (base := w.heap.size) hne1 hcell1
          obtain ⟨ab1, ao1, asp1⟩ := a1
          obtain ⟨pc1, ps1, pN1⟩ := p1
          simp only at hs1 hpc1 hps1 hN1
          subst hs1; subst hpc1; subst hps1
          have hall := in_two hok hok1
          have hv1 : ∀ {μ : Mu}, μ 1 = some ⟨pc1, ps1, pN1⟩ → VR μ (mk (.slice (some ⟨1, 0, none⟩) len1 (UNK0 + 1))) (.slice (some ⟨pc1, ps1, none⟩) len1 cap1) := by
            intro μ hμ
            have h := VR0.slice (μ := μ) (b := 1) (o := 0) (p := ⟨pc1, ps1, pN1⟩) (n := len1) (k := UNK0 + 1) (k' := cap1) hμ hl1 (.inl ⟨Nat.le_succ _, by show 0 + ps1 + cap1 * (UNK0 + 1 - UNK0) ≤ pN1; rw [Nat.add_sub_cancel_left]; omega⟩)
            rw [Nat.zero_add] at h
            exact .zero (.mark h rfl)
          exact law_callsF Try.progOk (bakCon_ok []) (inCallF_ok 60) Try.func4 mirrorBack_body (args := [mk (.slice (some ⟨0, 0, none⟩) len (UNK0 + 1)), mk (.slice (some ⟨1, 0, none⟩) len1 (UNK0 + 1)), mk (.int .i64 a)]) (h0 := inH [some (.row (.ints .i64 zs) true), some (.row (.bools os) true)]) (in_ro hall) (bakR_run zs len os len1 a (by omega) (by omega) ha hz)
            (μ := inMu [((⟨pc, ps, pN⟩ : Pl), some (Blk.row (.ints .i64 zs) true)), ((⟨pc1, ps1, pN1⟩ : Pl), some (Blk.row (.bools os) true))]) (All2.cons (hv rfl) (All2.cons (hv1 rfl) (All2.cons (m _) All2.nil))) (in_rel (Nat.le_refl _) hall) (in_free [((⟨pc, ps, pN⟩ : Pl), some (Blk.row (.ints .i64 zs) true)), ((⟨pc1, ps1, pN1⟩ : Pl), some (Blk.row (.bools os) true))])
        · have h2 : cap1 = 0 := by omega
          have h3 : len1 = 0 := by omega
          subst h2; subst h3
          have hall := in_two hok (in_nothing (base := w.heap.size) (w := w) ⟨0, 0, 0⟩)
          exact law_callsF Try.progOk (bakCon_ok _) (inCallF_ok 60) Try.func4 mirrorBack_body (args := [mk (.slice (some ⟨0, 0, none⟩) len (UNK0 + 1)), .slice (some ⟨1, 0, none⟩) 0 0, mk (.int .i64 a)]) (h0 := inH [some (.row (.ints .i64 zs) true), none]) (in_ro hall) (bakE_run zs len a (by omega) ha hz)
            (μ := inMu [((⟨pc, ps, pN⟩ : Pl), some (Blk.row (.ints .i64 zs) true)), ((⟨0, 0, 0⟩ : Pl), (none : Option Blk))]) (All2.cons (hv rfl) (All2.cons (.zero (VR0.slice0 (p := ⟨0, 0, 0⟩) rfl (.inr rfl))) (All2.cons (m _) All2.nil))) (in_rel (Nat.le_refl _) hall) (in_free [((⟨pc, ps, pN⟩ : Pl), some (Blk.row (.ints .i64 zs) true)), ((⟨0, 0, 0⟩ : Pl), (none : Option Blk))])
    · have h2 : cap = 0 := by omega
      have h3 : len = 0 := by omega
      subst h2; subst h3
      have hall := in_one (in_nothing (base := w.heap.size) (w := w) ⟨0, 0, 0⟩)
      exact law_callsF Try.progOk (bakCon_ok []) (inCallF_ok 60) Try.func4 mirrorBack_body (args := [.slice (some ⟨0, 0, none⟩) 0 0, dead, mk (.int .i64 a)]) (h0 := inH [none]) (in_ro hall) (bak1_run a)
        (μ := inMu [((⟨0, 0, 0⟩ : Pl), (none : Option Blk))]) (All2.cons (.zero (VR0.slice0 (p := ⟨0, 0, 0⟩) rfl (.inr rfl))) (All2.cons .dead (All2.cons (m _) All2.nil))) (in_rel (Nat.le_refl _) hall) (in_free [((⟨0, 0, 0⟩ : Pl), (none : Option Blk))])

set_option maxRecDepth 100000 in
theorem mirrorBack_lifted (os : Os) (started : os.Started) (H : Type) (enc : TypeId × Value → H) :
    ReturnsInHanded {} Try.checked os 4 .any (Rows.mirrorBackSpec.pre6 enc Try.prog Try.f4 Rows.mirrorBackRow.domain false) (Rows.mirrorBackSpec.post enc Try.prog Try.f4 false true false false) := by
  refine returnsInHanded_of_change (C := Try.checked) Try.own started (by kernel_rfl) Try.func4
    (ChangeSpec.witness6 (enc := enc) (C := Try.checked) false ⟨#[], #[.slice none 0 0, .slice none 0 0, .int .i64 0], []⟩ 8 (by kernel_rfl) (by kernel_rfl) (by kernel_rfl) (by kernel_rfl)) ?_
  intro W base args ds gs before hval0 hW hcnd _
  have hval : ∀ (j : Nat) t v, Try.f4.params[j]? = some t → args[j]? = some v → Value.okWide Try.prog W .any base t v := hval0
  have hW' := hW
  obtain ⟨p, q, hA0, hV, rfl, hfz, hnd⟩ := hW
  have hA : DataW.TrodAll enc Try.prog W 0 (fun _ => true) true Try.f4.params.toList args.toList ds p := hA0
  rw [Try.params4] at hA hval
  have hAk := hA
  obtain ⟨v0, v1, v2, d0, d1, d2, p0, p1, p2, rfl, rfl, rfl, h0, h1, h2⟩ := trodAll_three hA
  obtain ⟨rfl, rfl⟩ := trodVars_none hV
  obtain ⟨a2, rfl, rfl, rfl, wa2⟩ := open_int Try.underlying3 (hval 2 3 v2 rfl rfl) h2
  obtain ⟨s0, len0, cap0, rfl⟩ := okWide_slice Try.underlying35 (hval 0 35 v0 rfl rfl)
  obtain ⟨s1, len1, cap1, rfl⟩ := okWide_slice Try.underlying36 (hval 1 36 v1 rfl rfl)
  have hin : IntsIn W (.slice s0 len0 cap0) := by
    obtain ⟨fuel, hf⟩ := h0
    rcases open_ints Try.underlying35 Try.underlying3 (by kernel_rfl) hf with ⟨hcs, _⟩ | ⟨a, len, cap, zs, hcs, _, hl, _, hz, _, hcell, hwz⟩
    · simp [Value.cells] at hcs
      obtain ⟨rfl, rfl, rfl⟩ := hcs
      exact Or.inl rfl
    · simp [Value.cells] at hcs
      obtain ⟨rfl, rfl, rfl⟩ := hcs
      exact Or.inr ⟨a, _, _, zs, rfl, hl, by simpa using hz, hcell, fun n hn => i64_range (hwz n hn)⟩
  have hin1 : BoolsIn W (.slice s1 len1 cap1) := by
    obtain ⟨fuel, hf⟩ := h1
    rcases open_bools Try.underlying36 Try.underlying4 (by kernel_rfl) (fun _ => rfl) hf with hcs | ⟨a, len, cap, zs, hcs, hl, hz, hcell⟩
    · simp [Value.cells] at hcs
      obtain ⟨rfl, rfl, rfl⟩ := hcs
      exact Or.inl rfl
    · simp [Value.cells] at hcs
      obtain ⟨rfl, rfl, rfl⟩ := hcs
      exact Or.inr ⟨a, _, _, zs, rfl, hl, hz, hcell⟩
  clear hA0 hval0
  have hAk : DataW.TrodAll enc Try.prog W 0 (fun _ => true) true [35, 36, 3] [.slice s0 len0 cap0, .slice s1 len1 cap1, .int .i64 a2] [d0, d1, .lit (.int .i64 a2)] (p0 ++ p1) := by simpa using hAk
  have hlt : ∀ x ∈ p0 ++ p1, x.block < W.heap.size := fun x hx => hW'.lt x (by simpa using hx)
  refine (mirrorBack_calls (.slice s0 len0 cap0) (.slice s1 len1 cap1) a2 (i64_range wa2) W hin hin1).mono fun e W' ⟨hb, he⟩ => ?_
  subst he
  exact ⟨_, rfl, post_below (pa := p0 ++ p1) (pv := []) hW' (fun _ _ _ => trodAll_mk1 (shut_bool Try.underlying4 true)) (fun sp hsp => trodAll_stays (by kernel_rfl) hb (by decide +kernel) hAk hlt (fun x hx => hsp x (by simpa using hx))) (fun _ _ => rfl) (by simp) hb (ok_one (by kernel_rfl) rfl (okWide_bool_mk Try.underlying4 true))⟩

theorem mirrorBack_holds : Rows.MirrorBackSaid :=
  OpenClaim.holds_of_wide 4 Try.f4 rfl rfl rfl rfl rfl rfl rfl ⟨rfl, rfl, rfl, rfl, rfl⟩ rfl rfl rfl rfl rfl (by kernel_rfl) Try.func4 (by kernel_rfl)
    (of_decide_eq_true (by kernel_rfl)) (by unfold Func.isWrapper; first | (rw [if_pos (by decide +kernel)]; kernel_rfl) | (rw [if_neg (by decide +kernel)]; exact ⟨rfl, rfl⟩))
    (fun os started H enc _ => mirrorBack_lifted os started H enc)
end Go.Proofs.Ytmhfnbbamoadgaa
