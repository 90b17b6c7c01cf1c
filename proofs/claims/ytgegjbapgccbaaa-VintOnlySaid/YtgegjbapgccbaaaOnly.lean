/-
  VintOnly: the program's law is true for all bytes and numbers, and what was there stays as it was. No conditions.
-/
import Derived.Test.YtgegjbapgccbaaaOnlyV
namespace Go.Proofs.Ytgegjbapgccbaaa
open Go.ChangeShapes Go.WideShapes Go.ChangeAt Go.RowKit Go.Abs

theorem vintRuns_run : (callN vbeq Try.prog X0 60 3 [] H0).map (·.1) = some (.bool true) := by
  rw [callF_eq]
  kernel_rfl
theorem vintRuns_body : ∃ c, Try.f3.body = some c := ⟨_, rfl⟩
theorem oneX_ok : ∀ args h K, oneX std enc args h K → CallSem Try.prog 25 args h K := by
  intro args h K e
  unfold oneX at e
  split at e
  case h_2 => exact e.elim
  split at e
  · exact oneC_ok _ _ _ e
  · exact text_sem Try.progOk (noCon_ok _) (inCallF_ok 60) Try.func25 one_body e
theorem onlyCons_ok : ConOk Try.prog (onlyCons std enc okN valN advN) := by
  obtain ⟨c, hc⟩ := vintRuns_body
  refine tellO_ok (conL_ok fun x hx => ?_) _
  simp only [List.mem_cons, List.not_mem_nil, or_false] at hx
  rcases hx with rfl | rfl | rfl | rfl | rfl | rfl
  · exact withinC_ok
  · exact oneX_ok
  · exact reC_ok
  · exact numC_ok
  · exact sameC_ok
  · exact closedC_ok (knownOk_none Try.prog) Try.func3 hc rfl vintRuns_run
theorem enc_ne (n : Int) : ((enc n).length == 0) = false := by have := enc_len n; exact beq_eq_false_iff_ne.2 (by omega)
theorem enc_sz (n : Int) : 0 + (enc n).length ≤ (enc n).length ∧ (enc n).length * 1 ≤ 140737488355328 ∧ (enc n).length ≤ 4611686018427387904 := by have := enc_len n; omega
theorem enc_six (n : Int) : decide (((enc n).length : Int) ≤ 6) = true := decide_eq_true (by have := enc_len n; omega)
theorem enc_one (n : Int) : decide ((1 : Int) ≤ ((enc n).length : Int)) = true := decide_eq_true (by have := enc_len n; omega)
theorem take_all (l : List Int) : (((l.drop 0).take l.length).drop 0).take l.length = l := by simp
theorem enc_part (n : Int) : 0 + (enc n).length ≤ (((enc n).drop 0).take (enc n).length).length ∧ (enc n).length ≤ 1000000 := by have := enc_len n; simp; omega
theorem take_both {l m : List Int} (h : (((l.drop 0).take l.length).drop 0).take l.length = (((m.drop 0).take m.length).drop 0).take m.length) : l = m := by rwa [take_all, take_all] at h
theorem both_take {l m : List Int} (h : l = m) : (((l.drop 0).take l.length).drop 0).take l.length = (((m.drop 0).take m.length).drop 0).take m.length := by rw [h]
theorem no_nil : ¬ okN [] := by unfold okN; simp [numL]
theorem ok_some {l : List Int} (h : okN l) : numL 6 0 0 l = some (valN l, advN l) := by
  unfold okN at h
  unfold valN advN
  cases hr : numL 6 0 0 l with
  | none => rw [hr] at h; cases h
  | some x => rfl
theorem onlyN_run (a b : Int) (ha : -9223372036854775808 ≤ a ∧ a ≤ 9223372036854775807) (hb : -9223372036854775808 ≤ b ∧ b ≤ 9223372036854775807) :
    lawV std Try.prog (onlyCons std enc okN valN advN) (inCallF 60) 90 (fun _ => none) Try.f4 (bodyS Try.prog 4) [.slice none 0 0, mk (.int .i64 a), mk (.int .i64 b)] (inH [none]) (fun v _ => v = .bool true) := by
  rw [onlyN_vc]
  refine ⟨⟨0, 0, []⟩, rfl, ⟨Nat.le_refl _, Nat.zero_le _⟩, fun _ r hr => ?_⟩
  obtain ⟨n', xs'⟩ := r
  dsimp only at hr
  obtain ⟨rfl, rfl⟩ := hr
  refine ⟨⟨0, 0, []⟩, rfl, ⟨Nat.le_refl _, Nat.zero_le _⟩, fun h => absurd h no_nil, fun _ _ _ => ?_⟩
  refine ⟨ha, fun x hx _ => ⟨hb, fun y hy _ => ⟨x, rfl, hx, fun _ r hr => ?_⟩⟩⟩
  subst hr
  refine ⟨enc_ne _, enc_sz _, y, rfl, hy, fun _ r hr => ?_⟩
  subst hr
  exact ⟨enc_ne _, enc_sz _, ⟨0, _, 0, _, _, _⟩, rfl, ⟨enc_part _, enc_part _⟩, fun e _ _ => ⟨fun _ => ⟨fun _ => ⟨fun _ => rfl, fun h => absurd (enc_six _) (Bool.eq_false_iff.1 h)⟩, fun h => absurd (enc_one _) (Bool.eq_false_iff.1 h)⟩, fun h => absurd (enc_inj hx hy (take_both e)) (ne_of_beq_false h)⟩,
    fun e _ _ => ⟨fun h => absurd (both_take (congrArg enc (eq_of_beq h))) e, fun _ => ⟨fun _ => ⟨fun _ => rfl, fun h => absurd (enc_six _) (Bool.eq_false_iff.1 h)⟩, fun h => absurd (enc_one _) (Bool.eq_false_iff.1 h)⟩⟩⟩
theorem onlyE_run (a b : Int) (ha : -9223372036854775808 ≤ a ∧ a ≤ 9223372036854775807) (hb : -9223372036854775808 ≤ b ∧ b ≤ 9223372036854775807) :
    lawV std Try.prog (onlyCons std enc okN valN advN) (inCallF 60) 90 (fun _ => none) Try.f4 (bodyS Try.prog 4) [.slice (some ⟨0, 0, none⟩) 0 0, mk (.int .i64 a), mk (.int .i64 b)] (inH [none]) (fun v _ => v = .bool true) := by
  rw [onlyE_vc]
  refine ⟨⟨0, 0, []⟩, rfl, ⟨Nat.le_refl _, Nat.zero_le _⟩, fun _ r hr => ?_⟩
  obtain ⟨n', xs'⟩ := r
  dsimp only at hr
  obtain ⟨rfl, rfl⟩ := hr
  refine ⟨⟨0, 0, []⟩, rfl, ⟨Nat.le_refl _, Nat.zero_le _⟩, fun h => absurd h no_nil, fun _ _ _ => ?_⟩
  refine ⟨ha, fun x hx _ => ⟨hb, fun y hy _ => ⟨x, rfl, hx, fun _ r hr => ?_⟩⟩⟩
  subst hr
  refine ⟨enc_ne _, enc_sz _, y, rfl, hy, fun _ r hr => ?_⟩
  subst hr
  exact ⟨enc_ne _, enc_sz _, ⟨0, _, 0, _, _, _⟩, rfl, ⟨enc_part _, enc_part _⟩, fun e _ _ => ⟨fun _ => ⟨fun _ => ⟨fun _ => rfl, fun h => absurd (enc_six _) (Bool.eq_false_iff.1 h)⟩, fun h => absurd (enc_one _) (Bool.eq_false_iff.1 h)⟩, fun h => absurd (enc_inj hx hy (take_both e)) (ne_of_beq_false h)⟩,
    fun e _ _ => ⟨fun h => absurd (both_take (congrArg enc (eq_of_beq h))) e, fun _ => ⟨fun _ => ⟨fun _ => rfl, fun h => absurd (enc_six _) (Bool.eq_false_iff.1 h)⟩, fun h => absurd (enc_one _) (Bool.eq_false_iff.1 h)⟩⟩⟩
set_option maxHeartbeats 1000000 in
theorem onlyR_run (n : Nat) (xs : List Int) (hn : n ≤ xs.length) (hxs : Bytes xs) (a b : Int) (ha : -9223372036854775808 ≤ a ∧ a ≤ 9223372036854775807) (hb : -9223372036854775808 ≤ b ∧ b ≤ 9223372036854775807) :
    lawV std Try.prog (onlyCons std enc okN valN advN) (inCallF 60) 90 (fun _ => none) Try.f4 (bodyS Try.prog 4) [mk (.slice (some ⟨0, 0, none⟩) n U1), mk (.int .i64 a), mk (.int .i64 b)] (inH [some (.row (.ints .u8 xs) true)]) (fun v _ => v = .bool true) := by
  have him : 0 ≤ std.imin (n : Int) 12 ∧ std.imin (n : Int) 12 ≤ (n : Int) ∧ std.imin (n : Int) 12 ≤ 12 := by
    show 0 ≤ (if (12 : Int) < (n : Int) then 12 else (n : Int)) ∧ (if (12 : Int) < (n : Int) then 12 else (n : Int)) ≤ (n : Int) ∧ (if (12 : Int) < (n : Int) then 12 else (n : Int)) ≤ 12
    split <;> omega
  rw [onlyR_vc]
  generalize std.imin (n : Int) 12 = k at him ⊢
  refine ⟨⟨⟨him.1, him.2.1⟩, trivial⟩, fun h0 => ⟨by omega, ?_⟩, fun h0 => ?_⟩
  · refine ⟨⟨0, 0, []⟩, rfl, ⟨Nat.le_refl _, Nat.zero_le _⟩, fun _ r hr => ?_⟩
    obtain ⟨n', xs'⟩ := r
    dsimp only at hr
    obtain ⟨rfl, rfl⟩ := hr
    refine ⟨⟨0, 0, []⟩, rfl, ⟨Nat.le_refl _, Nat.zero_le _⟩, fun h => absurd h no_nil, fun _ _ _ => ?_⟩
    refine ⟨ha, fun x hx _ => ⟨hb, fun y hy _ => ⟨x, rfl, hx, fun _ r hr => ?_⟩⟩⟩
    subst hr
    refine ⟨enc_ne _, enc_sz _, y, rfl, hy, fun _ r hr => ?_⟩
    subst hr
    exact ⟨enc_ne _, enc_sz _, ⟨0, _, 0, _, _, _⟩, rfl, ⟨enc_part _, enc_part _⟩, fun e _ _ => ⟨fun _ => ⟨fun _ => ⟨fun _ => rfl, fun h => absurd (enc_six _) (Bool.eq_false_iff.1 h)⟩, fun h => absurd (enc_one _) (Bool.eq_false_iff.1 h)⟩, fun h => absurd (enc_inj hx hy (take_both e)) (ne_of_beq_false h)⟩,
      fun e _ _ => ⟨fun h => absurd (both_take (congrArg enc (eq_of_beq h))) e, fun _ => ⟨fun _ => ⟨fun _ => rfl, fun h => absurd (enc_six _) (Bool.eq_false_iff.1 h)⟩, fun h => absurd (enc_one _) (Bool.eq_false_iff.1 h)⟩⟩⟩
  have h0 : ¬ k.toNat - 0 = 0 := ne_of_beq_false h0
  have hl : ([] ++ List.take (k.toNat - 0) (List.drop (0 + 0 * 1) xs)).length = k.toNat := by
    show (List.take (k.toNat - 0) xs).length = k.toNat
    rw [List.length_take]; omega
  have hbl : Bytes ([] ++ List.take (k.toNat - 0) (List.drop (0 + 0 * 1) xs)) := fun x hx => hxs x (List.mem_of_mem_take hx)
  refine ⟨⟨by omega, by omega, by omega⟩, ⟨0, _, _⟩, rfl, ?_, fun _ r hr => ?_⟩
  · show 0 + (0 + (k.toNat - 0)) ≤ ([] ++ List.take (k.toNat - 0) (List.drop (0 + 0 * 1) xs)).length ∧ 0 + (k.toNat - 0) ≤ 1000000
    omega
  generalize ([] : List Int) ++ List.take (k.toNat - 0) (List.drop (0 + 0 * 1) xs) = l at hl hbl hr ⊢
  obtain ⟨n', xs'⟩ := r
  dsimp only at hr
  have hx' : xs' = l := by rw [hr.2, List.drop_zero, List.take_of_length_le (by omega)]
  have hn' : n' = l.length := by rw [hr.1]; omega
  subst hx'; subst hn'
  clear hr
  refine ⟨⟨0, _, _⟩, rfl, ⟨by dsimp only; omega, by dsimp only; omega⟩, fun hok => ?_, fun hok _ _ => ?_⟩
  · dsimp only at hok
    rw [List.drop_zero, List.take_of_length_le (Nat.le_refl _)] at hok
    intro r hr
    dsimp only at hr
    rw [List.drop_zero, List.take_of_length_le (Nat.le_refl _)] at hr
    obtain ⟨v, o, m⟩ := r
    obtain ⟨h1, h2, h3, h4, h5⟩ := num_only hbl (ok_some hok)
    dsimp only at hr
    rw [← hr.1] at h1 h2 h3 h4
    dsimp only
    refine ⟨v, rfl, ⟨h1, h2⟩, fun _ u hr' => ?_⟩
    subst hr'
    refine ⟨enc_ne _, enc_sz _, fun h => absurd (of_decide_eq_true h) (by omega), fun _ => ⟨fun h => absurd (of_decide_eq_true h) (by omega), fun _ => ⟨fun h => absurd (of_decide_eq_true h) (by omega), fun _ => ⟨⟨⟨by omega, by omega⟩, trivial⟩, ⟨0, _, _, _, _, _⟩, rfl, ⟨enc_part _, ?_⟩, fun e _ _ => ?_, fun e => ?_⟩⟩⟩⟩
    · show 0 + 0 * 1 + (((enc u).length : Int).toNat - 0) ≤ xs'.length ∧ ((enc u).length : Int).toNat - 0 ≤ 1000000
      omega
    · refine ⟨fun h => ⟨fun _ => ?_, fun h' => ?_⟩, fun h => ⟨fun h' => ?_, fun _ => ?_⟩⟩
      · refine ⟨ha, fun x hx _ => ⟨hb, fun y hy _ => ⟨x, rfl, hx, fun _ r hr => ?_⟩⟩⟩
        subst hr
        refine ⟨enc_ne _, enc_sz _, y, rfl, hy, fun _ r hr => ?_⟩
        subst hr
        exact ⟨enc_ne _, enc_sz _, ⟨0, _, 0, _, _, _⟩, rfl, ⟨enc_part _, enc_part _⟩, fun e _ _ => ⟨fun _ => ⟨fun _ => ⟨fun _ => rfl, fun h => absurd (enc_six _) (Bool.eq_false_iff.1 h)⟩, fun h => absurd (enc_one _) (Bool.eq_false_iff.1 h)⟩, fun h => absurd (enc_inj hx hy (take_both e)) (ne_of_beq_false h)⟩,
          fun e _ _ => ⟨fun h => absurd (both_take (congrArg enc (eq_of_beq h))) e, fun _ => ⟨fun _ => ⟨fun _ => rfl, fun h => absurd (enc_six _) (Bool.eq_false_iff.1 h)⟩, fun h => absurd (enc_one _) (Bool.eq_false_iff.1 h)⟩⟩⟩
      · have h : (m : Int) = 0 := eq_of_beq h
        have h' := ne_of_beq_false h'
        exfalso; omega
      · have h := ne_of_beq_false h
        have h' := eq_of_beq h'
        exfalso; omega
      · refine ⟨ha, fun x hx _ => ⟨hb, fun y hy _ => ⟨x, rfl, hx, fun _ r hr => ?_⟩⟩⟩
        subst hr
        refine ⟨enc_ne _, enc_sz _, y, rfl, hy, fun _ r hr => ?_⟩
        subst hr
        exact ⟨enc_ne _, enc_sz _, ⟨0, _, 0, _, _, _⟩, rfl, ⟨enc_part _, enc_part _⟩, fun e _ _ => ⟨fun _ => ⟨fun _ => ⟨fun _ => rfl, fun h => absurd (enc_six _) (Bool.eq_false_iff.1 h)⟩, fun h => absurd (enc_one _) (Bool.eq_false_iff.1 h)⟩, fun h => absurd (enc_inj hx hy (take_both e)) (ne_of_beq_false h)⟩,
          fun e _ _ => ⟨fun h => absurd (both_take (congrArg enc (eq_of_beq h))) e, fun _ => ⟨fun _ => ⟨fun _ => rfl, fun h => absurd (enc_six _) (Bool.eq_false_iff.1 h)⟩, fun h => absurd (enc_one _) (Bool.eq_false_iff.1 h)⟩⟩⟩
    · exfalso
      refine e ?_
      show ((((enc u).drop 0).take (enc u).length).drop 0).take (enc u).length = (xs'.drop (0 + 0 * 1)).take (((enc u).length : Int).toNat - 0)
      rw [h4] at h3
      rw [take_all]
      exact h3.symm
  · refine ⟨ha, fun x hx _ => ⟨hb, fun y hy _ => ⟨x, rfl, hx, fun _ r hr => ?_⟩⟩⟩
    subst hr
    refine ⟨enc_ne _, enc_sz _, y, rfl, hy, fun _ r hr => ?_⟩
    subst hr
    exact ⟨enc_ne _, enc_sz _, ⟨0, _, 0, _, _, _⟩, rfl, ⟨enc_part _, enc_part _⟩, fun e _ _ => ⟨fun _ => ⟨fun _ => ⟨fun _ => rfl, fun h => absurd (enc_six _) (Bool.eq_false_iff.1 h)⟩, fun h => absurd (enc_one _) (Bool.eq_false_iff.1 h)⟩, fun h => absurd (enc_inj hx hy (take_both e)) (ne_of_beq_false h)⟩,
      fun e _ _ => ⟨fun h => absurd (both_take (congrArg enc (eq_of_beq h))) e, fun _ => ⟨fun _ => ⟨fun _ => rfl, fun h => absurd (enc_six _) (Bool.eq_false_iff.1 h)⟩, fun h => absurd (enc_one _) (Bool.eq_false_iff.1 h)⟩⟩⟩
theorem wf_bytes {xs : List Int} (h : ∀ z ∈ xs, (Lit.int .u8 z).wf = true) : Bytes xs := fun z hz => by
  have := h z hz
  simp [Lit.wf] at this
  have e1 : IntKind.u8.min = 0 := rfl
  have e2 : IntKind.u8.max = 255 := rfl
  omega
theorem vintOnly_run (x0 : SrcI) (q0 : x0.Ok fun n r => ∃ zs, r = .ints .u8 zs ∧ n ≤ zs.length ∧ ∀ z ∈ zs, (Lit.int .u8 z).wf = true) (a1 : Int) (h1 : -9223372036854775808 ≤ a1 ∧ a1 ≤ 9223372036854775807) (a2 : Int) (h2 : -9223372036854775808 ≤ a2 ∧ a2 ≤ 9223372036854775807) :
    lawV std Try.prog (onlyCons std enc okN valN advN) (inCallF 60) 90 (fun _ => none) Try.f4 (bodyS Try.prog 4) [x0.arg 0, mk (.int .i64 a1), mk (.int .i64 a2)] (inH [x0.blk]) (fun v _ => v = .bool true) := by
  cases x0 with
  | nil => exact onlyN_run a1 a2 h1 h2
  | empty => exact onlyE_run a1 a2 h1 h2
  | row n r =>
    obtain ⟨zs, rfl, hn, hz⟩ := q0
    exact onlyR_run n zs hn (wf_bytes hz) a1 a2 h1 h2
theorem vintOnly_body : Try.f4.body = some (bodyS Try.prog 4) := by kernel_rfl
set_option maxRecDepth 100000 in
theorem vintOnly_calls (w : World) (v0 : Value) (h0 : CellsIn w v0 fun n r => ∃ zs, r = .ints .u8 zs ∧ n ≤ zs.length ∧ ∀ z ∈ zs, (Lit.int .u8 z).wf = true) (a1 : Int) (h1 : -9223372036854775808 ≤ a1 ∧ a1 ≤ 9223372036854775807) (a2 : Int) (h2 : -9223372036854775808 ≤ a2 ∧ a2 ≤ 9223372036854775807) :
    Calls Try.prog 4 #[v0, (.int .i64 a1), (.int .i64 a2)] w fun e w' => Below w.heap.size w w' ∧ e = .returned (.bool true) := by
  obtain ⟨x0, p0, q0, r0, i0⟩ := src_in h0
  exact law_in Try.progOk onlyCons_ok (inCallF_ok 60) Try.func4 vintOnly_body (n := 90) [(p0, x0.blk)]
    (by intro x hx; simp only [List.mem_cons, List.not_mem_nil, or_false] at hx; rcases hx with rfl
        · exact i0) (vintOnly_run x0 q0 a1 h1 a2 h2) (All2.cons (r0 _ 0 rfl) (All2.cons (.zero (.mark (.plain rfl) rfl)) (All2.cons (.zero (.mark (.plain rfl) rfl)) All2.nil)))
set_option maxRecDepth 100000 in
theorem vintOnly_lifted (os : Os) (started : os.Started) (H : Type) (enc : TypeId × Value → H) :
    ReturnsInHanded {} Try.checked os 4 .any (Rows.vintOnlySpec.pre6 enc Try.prog Try.f4 Rows.vintOnlyRow.domain false) (Rows.vintOnlySpec.post enc Try.prog Try.f4 false true false false) := by
  refine returnsInHanded_of_change (C := Try.checked) Try.own started (by kernel_rfl) Try.func4
    (ChangeSpec.witness6 (enc := enc) (C := Try.checked) false ⟨#[], #[.slice none 0 0, .int .i64 0, .int .i64 0], []⟩ 40 (by kernel_rfl) (by kernel_rfl) (by kernel_rfl) (by kernel_rfl)) ?_
  intro W base args ds gs before hval0 hW hcnd _
  have hval : ∀ (j : Nat) t v, Try.f4.params[j]? = some t → args[j]? = some v → Value.okWide Try.prog W .any base t v := hval0
  have hW' := hW
  obtain ⟨p, q, hA0, hV, rfl, hfz, hnd⟩ := hW
  have hA : DataW.TrodAll enc Try.prog W 0 (fun _ => true) true Try.f4.params.toList args.toList ds p := hA0
  rw [Try.params4] at hA hval
  have hAk := hA
  obtain ⟨v0, v1, v2, d0, d1, d2, p0, p1, p2, rfl, rfl, rfl, h0, h1, h2⟩ := trodAll_three' hA
  obtain ⟨rfl, rfl⟩ := trodVars_none hV
  have in0 := src_ints Try.underlying24 Try.underlying5 (by kernel_rfl) (hval 0 24 v0 rfl rfl) h0
  obtain ⟨a1, rfl, rfl, rfl, wa1⟩ := open_int Try.underlying3 (hval 1 3 v1 rfl rfl) h1
  obtain ⟨a2, rfl, rfl, rfl, wa2⟩ := open_int Try.underlying3 (hval 2 3 v2 rfl rfl) h2
  clear hA0 hval0
  have hlt : ∀ x ∈ p0 ++ [] ++ [] ++ ([] : List MemPlace), x.block < W.heap.size := fun x hx => hW'.lt x (by simpa using hx)
  refine (vintOnly_calls W v0 in0 a1 (i64_range wa1) a2 (i64_range wa2)).mono fun e W' ⟨hb, he⟩ => ?_
  subst he
  exact ⟨_, rfl, post_below (pa := p0 ++ [] ++ [] ++ []) (pv := []) hW' (fun _ _ _ => trodAll_mk1 (shut_bool Try.underlying4 true)) (fun sp hsp => trodAll_stays (by kernel_rfl) hb (by decide +kernel) hAk hlt (fun x hx => hsp x (by simpa using hx))) (fun _ _ => rfl) (by simp) hb (ok_one (by kernel_rfl) rfl (okWide_bool_mk Try.underlying4 true))⟩

theorem vintOnly_holds : Rows.VintOnlySaid :=
  OpenClaim.holds_of_wide 4 Try.f4 rfl rfl rfl rfl rfl rfl rfl ⟨rfl, rfl, rfl, rfl, rfl⟩ rfl rfl rfl rfl rfl (by kernel_rfl) Try.func4 (by kernel_rfl)
    (of_decide_eq_true (by kernel_rfl)) (by unfold Func.isWrapper; first | (rw [if_pos (by decide +kernel)]; kernel_rfl) | (rw [if_neg (by decide +kernel)]; exact ⟨rfl, rfl⟩))
    (fun os started H enc _ => vintOnly_lifted os started H enc)
end Go.Proofs.Ytgegjbapgccbaaa
