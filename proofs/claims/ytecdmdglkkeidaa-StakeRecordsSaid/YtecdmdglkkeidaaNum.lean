/-
  A NUMBER's BYTES, a reader's number: contracts.
-/
import Derived.Test.YtecdmdglkkeidaaNumV
import Derived.Test.YtecdmdglkkeidaaAbs53
namespace Go.Proofs.Ytecdmdglkkeidaa
open Go.RowKit Go.Abs Go

theorem one_body : Try.f47.body = some (bodyS Try.prog 47) := by kernel_rfl
theorem re_body : Try.f39.body = some (bodyS Try.prog 39) := by kernel_rfl
theorem num_body : Try.f40.body = some (bodyS Try.prog 40) := by kernel_rfl
set_option maxHeartbeats 4000000 in
theorem one_run (n : Int) (hn : 0 ≤ n ∧ n ≤ 1099511627775) : lawV std Try.prog oneTell (inCallF 60) 40 (fun _ => none) Try.f47 (bodyS Try.prog 47) [mk (.int .i64 n)] (hpOf []) (oneDone std enc n) := by
  have h6 : ¬ (127 : Int) < std.shr .i64 (std.shr .i64 (std.shr .i64 (std.shr .i64 (std.shr .i64 n 7) 7) 7) 7) 7 := by simp only [shr7]; omega
  rw [one_vc]
  repeat' first
    | (intro h; simp only [decide_eq_true_eq, shr7] at h; exfalso; omega)
    | (intro h; simp only [decide_eq_true_eq] at h)
    | (intro h; simp only [decide_eq_false_iff_not] at h)
    | (refine ⟨n, ?_, rfl⟩)
    | (refine And.intro ?_ ?_)
  all_goals first
    | (refine decide_eq_true ?_; omega)
    | (refine decide_eq_false ?_; exact h6)
    | (refine decide_eq_false ?_; omega)
    | omega
    | (simp only [enc, encF, if_true, if_false, *]; rfl)
theorem oneC_ok : ∀ args h K, fcon (oneI std) [oneO std enc] args h K → CallSem Try.prog 47 args h K :=
  fcon_ok (fun d _ => ⟨_, List.mem_singleton.2 rfl, trivial⟩) fun O hO => by
    rw [List.mem_singleton.1 hO]
    exact FSpec.okF Try.progOk (tellO_ok (noCon_ok _) _) (inCallF_ok 60) _ Try.func47 one_body (Nat.zero_le _) rfl fun d hd => ⟨_, rfl, rfl, one_run d hd.1⟩

theorem re_run (o n : Nat) (xs : List Int) (h1 : o + n ≤ xs.length) (h2 : n ≤ 1000000) : lawV std Try.prog noCon (inCallF 60) 40 (fun _ => none) Try.f39 (bodyS Try.prog 39) [mk (.slice (some ⟨0, o, none⟩) n U1)] (hpOf [some (.row (.ints .u8 xs) true)]) (reDone std ⟨o, n, xs⟩) := by
  rw [re_vc]
  refine ⟨fun e => ?_, fun e => ?_⟩
  · have e : n = 0 := by simpa using e
    subst e
    exact ⟨h1, ⟨0, []⟩, rfl, rfl, rfl⟩
  · refine ⟨⟨h1, ?_, ?_⟩, ⟨0 + n, _⟩, rfl, Nat.zero_add n, List.nil_append _⟩ <;> omega
theorem reC_ok : ∀ args h K, fcon (reI std) [reO std] args h K → CallSem Try.prog 39 args h K :=
  fcon_ok (fun d _ => ⟨_, List.mem_singleton.2 rfl, trivial⟩) fun O hO => by
    rw [List.mem_singleton.1 hO]
    exact FSpec.okF Try.progOk (noCon_ok _) (inCallF_ok 60) _ Try.func39 re_body (Nat.le_of_ble_eq_true rfl) rfl fun d hd => ⟨_, rfl, rfl, re_run d.o d.n d.xs hd.1.1 hd.1.2⟩

/-- The head of a round: j bytes are behind it. -/
def numIn (o n : Nat) (xs : List Int) (G : Option (Int × Nat) → Nat → Prop) (d : NumL) : Prop :=
  ∃ j : Nat, j ≤ 6 ∧ d.s = 7 * (j : Int) ∧ d.o = o + j ∧ d.n + j = n ∧ G (numL (6 - j) d.s d.acc ((xs.drop d.o).take d.n)) j
theorem numL_succ (k : Nat) (s acc b : Int) (l : List Int) : numL (k + 1) s acc (b :: l) = if b < 128 then (if 1099511627775 < accS acc b s ∨ (b = 0 ∧ 0 < s) then none else some (accS acc b s, 1))
    else (numL k (s + 7) (accS acc b s) l).map fun x => (x.1, x.2 + 1) := rfl
set_option maxHeartbeats 1000000 in
theorem num1_run (o n : Nat) (xs : List Int) (h1 : o + n ≤ xs.length) (hok : okN ((xs.drop o).take n)) :
    lawV std Try.prog numTell (inCallF 60) 90 (numLs xs (numIn o n xs fun r j => ∃ v a, r = some (v, a) ∧ v = valN ((xs.drop o).take n) ∧ a + j = advN ((xs.drop o).take n)) (fun d => (42 - d.s).toNat)) Try.f40 (bodyS Try.prog 40) [.pointer (some ⟨0, 0, none⟩)] (hpOf [some (.cells [mk (.slice (some ⟨1, o, none⟩) n U1), .bool false] false), some (.row (.ints .u8 xs) true)]) (numDone1 std okN valN advN ⟨o, n, xs⟩) := by
  rw [num1_vc]
  refine ⟨⟨0, 0, o, n⟩, rfl, ⟨0, by omega, rfl, rfl, rfl, ?_⟩, fun d hI => ?_⟩
  · unfold okN at hok
    unfold valN advN
    cases hr : numL 6 0 0 ((xs.drop o).take n) with
    | none => rw [hr] at hok; cases hok
    | some r => exact ⟨r.1, r.2, rfl, rfl, rfl⟩
  obtain ⟨j, hj, hs, ho, hn, v, a, hr, hv, ha⟩ := hI
  refine ⟨fun h => ?_, fun h => ?_⟩
  · have h : d.s < 42 := of_decide_eq_true h
    obtain ⟨k, hk⟩ : ∃ k, 6 - j = k + 1 := ⟨5 - j, by omega⟩
    rw [hk] at hr
    refine ⟨fun e => ?_, fun e => ?_⟩
    · have e : (d.n : Int) < 1 := of_decide_eq_true e
      have : d.n = 0 := by omega
      rw [this, List.take_zero] at hr
      simp [numL] at hr
    · have e : ¬ (d.n : Int) < 1 := of_decide_eq_false e
      have hlt : d.o < xs.length := by omega
      rw [part_cons (by omega) (by omega), numL_succ] at hr
      refine ⟨⟨by omega, trivial⟩, ⟨trivial, by omega⟩, rfl, ⟨by decide, by decide⟩, hlt, by omega, ⟨by decide, by decide⟩, hlt, fun e1 => ?_, fun e1 => ?_⟩
      · have e1 : xs.getD d.o 0 < 128 := of_decide_eq_true e1
        rw [if_pos e1] at hr
        refine ⟨fun e2 => ?_, fun e2 => ⟨⟨by decide, by decide⟩, hlt, fun e3 => ⟨fun e4 => ?_, fun e4 => ?_⟩, fun e3 => ?_⟩⟩
        · have e2 : 1099511627775 < accS d.acc (xs.getD d.o 0) d.s := of_decide_eq_true e2
          rw [if_pos (.inl e2)] at hr; cases hr
        · have e3 : xs.getD d.o 0 = 0 := eq_of_beq e3
          have e4 : 0 < d.s := of_decide_eq_true e4
          rw [if_pos (.inr ⟨e3, e4⟩)] at hr; cases hr
        · have e2 : ¬ 1099511627775 < accS d.acc (xs.getD d.o 0) d.s := of_decide_eq_false e2
          have e4 : ¬ 0 < d.s := of_decide_eq_false e4
          rw [if_neg (by rintro (h | h); exact e2 h; exact e4 h.2)] at hr
          simp only [Option.some.injEq, Prod.mk.injEq] at hr
          exact ⟨⟨_, _, _⟩, rfl, hr.1.trans hv, by show d.o + 1 = _; omega, by show d.n - 1 = _; omega⟩
        · have e2 : ¬ 1099511627775 < accS d.acc (xs.getD d.o 0) d.s := of_decide_eq_false e2
          have e3 : ¬ xs.getD d.o 0 = 0 := ne_of_beq_false e3
          rw [if_neg (by rintro (h | h); exact e2 h; exact e3 h.1)] at hr
          simp only [Option.some.injEq, Prod.mk.injEq] at hr
          exact ⟨⟨_, _, _⟩, rfl, hr.1.trans hv, by show d.o + 1 = _; omega, by show d.n - 1 = _; omega⟩
      · have e1 : ¬ xs.getD d.o 0 < 128 := of_decide_eq_false e1
        rw [if_neg e1] at hr
        cases hr2 : numL k (d.s + 7) (accS d.acc (xs.getD d.o 0) d.s) ((xs.drop (d.o + 1)).take (d.n - 1)) with
        | none => rw [hr2] at hr; cases hr
        | some r2 =>
          rw [hr2] at hr
          simp only [Option.map_some, Option.some.injEq, Prod.mk.injEq] at hr
          refine ⟨⟨by omega, by omega⟩, ⟨_, _, _, _⟩, rfl, ?_, j + 1, by omega, by show d.s + 7 = _; omega, by show d.o + 1 = _; omega, by show d.n - 1 + _ = _; omega, r2.1, r2.2, ?_, by omega, by omega⟩
          · show (42 - (d.s + 7)).toNat + 1 ≤ (42 - d.s).toNat
            omega
          · rw [show 6 - (j + 1) = k by omega]
            exact hr2
  · have h : ¬ d.s < 42 := of_decide_eq_false h
    rw [show 6 - j = 0 by omega] at hr
    simp [numL] at hr
set_option maxHeartbeats 1000000 in
theorem num2_run (o n : Nat) (xs : List Int) (h1 : o + n ≤ xs.length) (hok : ¬ okN ((xs.drop o).take n)) :
    lawV std Try.prog numTell (inCallF 60) 90 (numLs xs (numIn o n xs fun r _ => r = none) (fun d => (42 - d.s).toNat)) Try.f40 (bodyS Try.prog 40) [.pointer (some ⟨0, 0, none⟩)] (hpOf [some (.cells [mk (.slice (some ⟨1, o, none⟩) n U1), .bool false] false), some (.row (.ints .u8 xs) true)]) (numDone2 std okN ⟨o, n, xs⟩) := by
  rw [num2_vc]
  refine ⟨⟨0, 0, o, n⟩, rfl, ⟨0, by omega, rfl, rfl, rfl, ?_⟩, fun d hI => ?_⟩
  · unfold okN at hok
    simpa using hok
  obtain ⟨j, hj, hs, ho, hn, hr⟩ := hI
  refine ⟨fun h => ?_, fun h => ⟨(_, _), rfl, trivial⟩⟩
  have h : d.s < 42 := of_decide_eq_true h
  obtain ⟨k, hk⟩ : ∃ k, 6 - j = k + 1 := ⟨5 - j, by omega⟩
  rw [hk] at hr
  refine ⟨fun e => ⟨(_, _), rfl, trivial⟩, fun e => ?_⟩
  have e : ¬ (d.n : Int) < 1 := of_decide_eq_false e
  have hlt : d.o < xs.length := by omega
  rw [part_cons (by omega) (by omega), numL_succ] at hr
  refine ⟨⟨by omega, trivial⟩, ⟨trivial, by omega⟩, rfl, ⟨by decide, by decide⟩, hlt, by omega, ⟨by decide, by decide⟩, hlt, fun e1 => ?_, fun e1 => ?_⟩
  · have e1 : xs.getD d.o 0 < 128 := of_decide_eq_true e1
    rw [if_pos e1] at hr
    refine ⟨fun e2 => ⟨(_, _), rfl, trivial⟩, fun e2 => ⟨⟨by decide, by decide⟩, hlt, fun e3 => ⟨fun e4 => ⟨(_, _), rfl, trivial⟩, fun e4 => ?_⟩, fun e3 => ?_⟩⟩
    · have e2 : ¬ 1099511627775 < accS d.acc (xs.getD d.o 0) d.s := of_decide_eq_false e2
      have e4 : ¬ 0 < d.s := of_decide_eq_false e4
      rw [if_neg (by rintro (h | h); exact e2 h; exact e4 h.2)] at hr
      cases hr
    · have e2 : ¬ 1099511627775 < accS d.acc (xs.getD d.o 0) d.s := of_decide_eq_false e2
      have e3 : ¬ xs.getD d.o 0 = 0 := ne_of_beq_false e3
      rw [if_neg (by rintro (h | h); exact e2 h; exact e3 h.1)] at hr
      cases hr
  · have e1 : ¬ xs.getD d.o 0 < 128 := of_decide_eq_false e1
    rw [if_neg e1] at hr
    refine ⟨⟨by omega, by omega⟩, ⟨_, _, _, _⟩, rfl, ?_, j + 1, by omega, by show d.s + 7 = _; omega, by show d.o + 1 = _; omega, by show d.n - 1 + _ = _; omega, ?_⟩
    · show (42 - (d.s + 7)).toNat + 1 ≤ (42 - d.s).toNat
      omega
    · rw [show 6 - (j + 1) = k by omega]
      exact Option.map_eq_none_iff.1 hr
theorem numC_ok : ∀ args h K, fcon (numI std) [numO1 std okN valN advN, numO2 std okN] args h K → CallSem Try.prog 40 args h K :=
  fcon_ok (fun d _ => by
    by_cases e : okN ((d.xs.drop d.o).take d.n)
    · exact ⟨_, List.mem_cons_self, e⟩
    · exact ⟨_, List.mem_cons_of_mem _ (List.mem_cons_self), e⟩) fun O hO => by
    rcases List.mem_cons.1 hO with rfl | hO
    · exact FSpec.okF Try.progOk (tell_ok (noCon_ok _) _) (inCallF_ok 60) _ Try.func40 num_body (Nat.le_of_ble_eq_true rfl) rfl fun d hd => ⟨_, rfl, rfl, num1_run d.o d.n d.xs hd.1.1 hd.2⟩
    · rw [List.mem_singleton.1 hO]
      exact FSpec.okF Try.progOk (tell_ok (noCon_ok _) _) (inCallF_ok 60) _ Try.func40 num_body (Nat.le_of_ble_eq_true rfl) rfl fun d hd => ⟨_, rfl, rfl, num2_run d.o d.n d.xs hd.1.1 hd.2⟩
end Go.Proofs.Ytecdmdglkkeidaa
