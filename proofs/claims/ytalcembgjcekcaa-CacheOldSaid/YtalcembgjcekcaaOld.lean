/-
  CacheOld: the program's law is true for all numbers, and what was there stays as it was. No conditions.
-/
import Derived.Test.YtalcembgjcekcaaOldV
namespace Go.Proofs.Ytalcembgjcekcaa
open Go.ChangeShapes Go.WideShapes Go.ChangeAt Go.RowKit Go.Abs

theorem oldRuns_run : (callN vbeq Try.prog X0 60 3 [] H0).map (·.1) = some (.bool true) := by
  rw [callF_eq]
  kernel_rfl
theorem oldRuns_body : ∃ c, Try.f3.body = some c := ⟨_, rfl⟩
theorem oldCons_ok : ConOk Try.prog (oldCons std) := by
  obtain ⟨c, hc⟩ := oldRuns_body
  refine conL_ok fun x hx => ?_
  simp only [List.mem_cons, List.not_mem_nil, or_false] at hx
  rcases hx with rfl | rfl
  · exact withinC_ok
  · exact closedC_ok (knownOk_none Try.prog) Try.func3 hc rfl oldRuns_run

theorem old_imax (a b : Int) : std.imax a b = max a b := by show (if b > a then b else a) = max a b; split <;> omega
def oldIA (d : OA) : Prop := 0 ≤ d.b ∧ d.b ≤ 1000
def oldIB (n : Nat) (d : OB) : Prop := (0 ≤ d.b ∧ d.b ≤ 1000) ∧ (1 ≤ d.high ∧ d.high ≤ 16) ∧ d.h = d.high ∧ (1 ≤ d.i ∧ d.i ≤ 15) ∧ d.i ≤ (n : Int) ∧ (d.b ≤ d.at' ∧ d.at' ≤ d.b + 14)
def oldM (d : OB) : Nat := (15 - d.i).toNat

set_option maxHeartbeats 4000000 in
theorem old_run (zs : List Int) (n : Nat) (b0 : Int) (hn : n ≤ zs.length) (hb0 : -9223372036854775808 ≤ b0 ∧ b0 ≤ 9223372036854775807) (hz : ∀ j, -9223372036854775808 ≤ std.get (0 : Int) zs j ∧ std.get (0 : Int) zs j ≤ 9223372036854775807) :
    lawV std Try.prog (oldCons std) (inCallF 60) 90 (oldL zs n oldIA (oldIB n) oldM) Try.f4 (bodyOld Try.prog 4) [mk (.slice (some ⟨0, 0, none⟩) n (UNK0 + 1)), mk (.int .i64 b0)] (inH [some (.row (.ints .i64 zs) true)]) (fun v _ => v = .bool true) := by
  rw [old_vc]
  repeat' first
    | (intro (d : OA); obtain ⟨b⟩ := d; dsimp only [oldIA])
    | (intro (d : OB); obtain ⟨b, high, i, h, at'⟩ := d; dsimp only [oldIB])
    | (refine Exists.intro (OA.mk _) (And.intro rfl ?_))
    | (refine Exists.intro (OB.mk _ _ _ _ _) (And.intro rfl ?_))
    | (refine And.intro ?_ ?_)
    | (intro h; simp only [decide_eq_true_eq, decide_eq_false_iff_not, beq_iff_eq, beq_eq_false_iff_ne, ne_eq, Bool.not_eq_true', Bool.not_eq_false', old_imax] at h)
    | (intro h)
  all_goals first
    | rfl
    | omega
    | exact (hz _).1
    | exact (hz _).2
    | (exfalso; omega)
    | (change oldM _ < 100; dsimp only [oldM]; omega)
    | (change oldM _ < oldM _; dsimp only [oldM]; omega)
    | (dsimp only; omega)
    | (dsimp only [old_imax]; omega)
    | (simp only [old_imax]; omega)
    | skip

theorem oldN_run (b0 : Int) (hb0 : -9223372036854775808 ≤ b0 ∧ b0 ≤ 9223372036854775807) :
    lawV std Try.prog (oldCons std) (inCallF 60) 90 (fun _ => none) Try.f4 (bodyOld Try.prog 4) [.slice none 0 0, mk (.int .i64 b0)] (inH []) (fun v _ => v = .bool true) := by
  rw [oldN_vc]
  exact ⟨hb0, fun _ _ _ => rfl⟩
theorem oldE_run (b0 : Int) (hb0 : -9223372036854775808 ≤ b0 ∧ b0 ≤ 9223372036854775807) :
    lawV std Try.prog (oldCons std) (inCallF 60) 90 (fun _ => none) Try.f4 (bodyOld Try.prog 4) [.slice (some ⟨0, 0, none⟩) 0 0, mk (.int .i64 b0)] (inH [none]) (fun v _ => v = .bool true) := by
  rw [oldE_vc]
  exact ⟨hb0, fun _ _ _ => rfl⟩

theorem cacheOld_body : Try.f4.body = some (bodyOld Try.prog 4) := by kernel_rfl

/-- What is known of a slice of integers that came in. -/
def IntsIn (w : World) (v : Value) : Prop :=
  v = .slice none 0 0 ∨ ∃ (a : Addr) (len cap : Nat) (zs : List Int), v = .slice (some a) len cap ∧ len ≤ cap ∧ zs.length = cap ∧ (∀ i, i < zs.length → w.cell? (a.add i) = some (.int .i64 (zs.getD i 0))) ∧
    (∀ n ∈ zs, -9223372036854775808 ≤ n ∧ n ≤ 9223372036854775807)

theorem cacheOld_calls (v0 : Value) (a1 : Int) (h1 : -9223372036854775808 ≤ a1 ∧ a1 ≤ 9223372036854775807) (w : World) (h0 : IntsIn w v0) :
    Calls Try.prog 4 #[v0, .int .i64 a1] w fun e w' => Below w.heap.size w w' ∧ e = .returned (.bool true) := by
  rcases h0 with rfl | ⟨a, len, cap, zs, rfl, hl, hc, hcell, hwz⟩
  · exact law_callsF Try.progOk oldCons_ok (inCallF_ok 60) Try.func4 cacheOld_body (args := [.slice none 0 0, mk (.int .i64 a1)]) (h0 := inH []) (in_ro (l := []) (base := w.heap.size) (w := w) (fun x hx => by cases hx)) (oldN_run a1 h1)
      (μ := inMu []) (All2.cons (.plain1 rfl) (All2.cons (.zero (.mark (.plain rfl) rfl)) All2.nil)) (in_rel (l := []) (Nat.le_refl _) (fun x hx => by cases hx)) (in_free [])
  · by_cases hne : 0 < zs.length
    · obtain ⟨hs, p, hpc, hps, hN, hok⟩ := in_ints (base := w.heap.size) hne hcell
      obtain ⟨ab, ao, asp⟩ := a
      obtain ⟨pc, ps, pN⟩ := p
      simp only at hs hpc hps hN
      subst hs; subst hpc; subst hps
      have hall : ∀ x ∈ [((⟨pc, ps, pN⟩ : Pl), some (Blk.row (.ints .i64 zs) true))], InOk w.heap.size w x := fun x hx => by
        have : x = ((⟨pc, ps, pN⟩ : Pl), some (Blk.row (.ints .i64 zs) true)) := by simpa using hx
        rw [this]; exact hok
      have hv : VR0 (inMu [((⟨pc, ps, pN⟩ : Pl), some (Blk.row (.ints .i64 zs) true))]) (.slice (some ⟨0, 0, none⟩) len (UNK0 + 1)) (.slice (some ⟨pc, 0 + ps, none⟩) len cap) :=
        VR0.slice (p := ⟨pc, ps, pN⟩) rfl hl (.inl ⟨Nat.le_succ _, by show 0 + ps + cap * (UNK0 + 1 - UNK0) ≤ pN; rw [Nat.add_sub_cancel_left]; omega⟩)
      rw [Nat.zero_add] at hv
      have hz : ∀ j, -9223372036854775808 ≤ std.get (0 : Int) zs j ∧ std.get (0 : Int) zs j ≤ 9223372036854775807 := by
        intro j
        show -9223372036854775808 ≤ zs.getD j 0 ∧ zs.getD j 0 ≤ 9223372036854775807
        rw [List.getD_eq_getElem?_getD]
        cases hj : zs[j]? with
        | none => simp
        | some x => exact hwz x (List.mem_of_getElem? hj)
      exact law_callsF Try.progOk oldCons_ok (inCallF_ok 60) Try.func4 cacheOld_body (args := [mk (.slice (some ⟨0, 0, none⟩) len (UNK0 + 1)), mk (.int .i64 a1)]) (h0 := inH [some (.row (.ints .i64 zs) true)]) (in_ro hall) (old_run zs len a1 (by omega) h1 hz)
        (μ := inMu [((⟨pc, ps, pN⟩ : Pl), some (Blk.row (.ints .i64 zs) true))]) (All2.cons (.zero (.mark hv rfl)) (All2.cons (.zero (.mark (.plain rfl) rfl)) All2.nil)) (in_rel (Nat.le_refl _) hall) (in_free [((⟨pc, ps, pN⟩ : Pl), some (Blk.row (.ints .i64 zs) true))])
    · have h2 : cap = 0 := by omega
      have h3 : len = 0 := by omega
      subst h2; subst h3
      have hall : ∀ x ∈ [((⟨0, 0, 0⟩ : Pl), (none : Option Blk))], InOk w.heap.size w x := fun x hx b hb => by
        have : x = ((⟨0, 0, 0⟩ : Pl), (none : Option Blk)) := by simpa using hx
        rw [this] at hb; cases hb
      exact law_callsF Try.progOk oldCons_ok (inCallF_ok 60) Try.func4 cacheOld_body (args := [.slice (some ⟨0, 0, none⟩) 0 0, mk (.int .i64 a1)]) (h0 := inH [none]) (in_ro hall) (oldE_run a1 h1)
        (μ := inMu [((⟨0, 0, 0⟩ : Pl), (none : Option Blk))]) (All2.cons (.zero (VR0.slice0 (p := ⟨0, 0, 0⟩) rfl (.inr rfl))) (All2.cons (.zero (.mark (.plain rfl) rfl)) All2.nil)) (in_rel (Nat.le_refl _) hall) (in_free [((⟨0, 0, 0⟩ : Pl), (none : Option Blk))])

set_option maxRecDepth 100000 in
theorem cacheOld_lifted (os : Os) (started : os.Started) (H : Type) (enc : TypeId × Value → H) :
    ReturnsInHanded {} Try.checked os 4 .any (Rows.cacheOldSpec.pre6 enc Try.prog Try.f4 Rows.cacheOldRow.domain false) (Rows.cacheOldSpec.post enc Try.prog Try.f4 false true false false) := by
  refine returnsInHanded_of_change (C := Try.checked) Try.own started (by kernel_rfl) Try.func4
    (ChangeSpec.witness6 (enc := enc) (C := Try.checked) false ⟨#[], #[.slice none 0 0, .int .i64 0], []⟩ 8 (by kernel_rfl) (by kernel_rfl) (by kernel_rfl) (by kernel_rfl)) ?_
  intro W base args ds gs before hval0 hW hcnd _
  have hval : ∀ (j : Nat) t v, Try.f4.params[j]? = some t → args[j]? = some v → Value.okWide Try.prog W .any base t v := hval0
  have hW' := hW
  obtain ⟨p, q, hA0, hV, rfl, hfz, hnd⟩ := hW
  have hA : DataW.TrodAll enc Try.prog W 0 (fun _ => true) true Try.f4.params.toList args.toList ds p := hA0
  rw [Try.params4] at hA hval
  have hAk := hA
  obtain ⟨v0, v1, d0, d1, p0, p1, rfl, rfl, rfl, h0, h1⟩ := trodAll_two hA
  obtain ⟨rfl, rfl⟩ := trodVars_none hV
  obtain ⟨a1, rfl, rfl, rfl, wa1⟩ := open_int Try.underlying3 (hval 1 3 v1 rfl rfl) h1
  obtain ⟨s0, len0, cap0, rfl⟩ := okWide_slice Try.underlying33 (hval 0 33 v0 rfl rfl)
  have hin : IntsIn W (.slice s0 len0 cap0) := by
    obtain ⟨fuel, hf⟩ := h0
    rcases open_ints Try.underlying33 Try.underlying3 (by kernel_rfl) hf with ⟨hcs, _⟩ | ⟨a, len, cap, zs, hcs, _, hl, _, hz, _, hcell, hwz⟩
    · simp [Value.cells] at hcs
      obtain ⟨rfl, rfl, rfl⟩ := hcs
      exact Or.inl rfl
    · simp [Value.cells] at hcs
      obtain ⟨rfl, rfl, rfl⟩ := hcs
      exact Or.inr ⟨a, _, _, zs, rfl, hl, by simpa using hz, hcell, fun n hn => i64_range (hwz n hn)⟩
  clear hA0 hval0
  have hlt : ∀ x ∈ p0 ++ [], x.block < W.heap.size := fun x hx => hW'.lt x (by simpa using hx)
  refine (cacheOld_calls (.slice s0 len0 cap0) a1 (i64_range wa1) W hin).mono fun e W' ⟨hb, he⟩ => ?_
  subst he
  exact ⟨_, rfl, post_below (pa := p0 ++ []) (pv := []) hW' (fun _ _ _ => trodAll_mk1 (shut_bool Try.underlying4 true)) (fun sp hsp => trodAll_stays (by kernel_rfl) hb (by decide +kernel) hAk hlt (fun x hx => hsp x (by simpa using hx))) (fun _ _ => rfl) (by simp) hb (ok_one (by kernel_rfl) rfl (okWide_bool_mk Try.underlying4 true))⟩

theorem cacheOld_holds : Rows.CacheOldSaid :=
  OpenClaim.holds_of_wide 4 Try.f4 rfl rfl rfl rfl rfl rfl rfl ⟨rfl, rfl, rfl, rfl, rfl⟩ rfl rfl rfl rfl rfl (by kernel_rfl) Try.func4 (by kernel_rfl)
    (of_decide_eq_true (by kernel_rfl)) (by unfold Func.isWrapper; first | (rw [if_pos (by decide +kernel)]; kernel_rfl) | (rw [if_neg (by decide +kernel)]; exact ⟨rfl, rfl⟩))
    (fun os started H enc _ => cacheOld_lifted os started H enc)
end Go.Proofs.Ytalcembgjcekcaa
