/-
  VintTexts: the program's law is true for all bytes and numbers, and what was there stays as it was. No conditions.
-/
import Derived.Test.YtgegjbapgccbaaaTextsV
namespace Go.Proofs.Ytgegjbapgccbaaa
open Go.ChangeShapes Go.WideShapes Go.ChangeAt Go.RowKit Go.Abs

theorem num_front {n : Int} (h : 0 ≤ n ∧ n ≤ 1099511627775) (b : List Int) : okN (enc n ++ b) ∧ valN (enc n ++ b) = n ∧ advN (enc n ++ b) = (enc n).length := by
  unfold okN valN advN
  rw [numL_enc h]
  exact ⟨rfl, rfl, rfl⟩
set_option maxHeartbeats 1000000 in
theorem textsN_run (a : Int) (ha : -9223372036854775808 ≤ a ∧ a ≤ 9223372036854775807) :
    lawV std Try.prog (vintCons std enc okN valN advN [15, 24]) (inCallF 60) 90 (fun _ => none) Try.f6 (bodyS Try.prog 6) [.slice none 0 0, mk (.int .i64 a)] (inH [none]) (fun v _ => v = .bool true) := by
  rw [textsN_vc]
  refine ⟨ha, fun u0 hk _ => ⟨u0, rfl, ⟨by omega, by omega⟩, fun _ u hu => ?_⟩⟩
  subst hu
  refine ⟨enc_ne _, enc_sz _, ⟨0, _, _⟩, rfl, enc_part _, fun _ r hr => ?_⟩
  obtain ⟨n', l⟩ := r
  dsimp only at hr
  have hl : l = enc u ++ [] := by rw [hr.2]; simp
  have hn' : n' = l.length := by rw [hr.1, hl]; simp
  clear hr
  have hll : l.length = (enc u).length + ([] : List Int).length := by rw [hl, List.length_append]
  subst hn'
  have he := enc_len u
  obtain ⟨f1, f2, f3⟩ := num_front (n := u) ⟨by omega, by omega⟩ []
  refine ⟨⟨0, _, _⟩, rfl, ⟨by dsimp only; omega, by dsimp only; (try simp at hll); omega⟩, fun _ r hr => ?_, fun hok _ _ => ?_⟩
  rotate_left
  · refine absurd ?_ hok
    show okN ((l.drop 0).take l.length)
    rw [List.drop_zero, List.take_length, hl]; exact f1
  obtain ⟨v, o, m⟩ := r
  dsimp only at hr ⊢
  rw [List.drop_zero, List.take_length, hl, f2, f3, ← hl] at hr
  obtain ⟨hv, ho, hm⟩ := hr
  have hd : l.drop ((enc u).length) = [] := by rw [hl]; simp
  rw [Nat.zero_add] at ho
  rw [hll, Nat.add_sub_cancel_left] at hm
  subst hv; subst ho; subst hm
  have hseq : v ≤ 0 → std.seq (std.sof (((l.drop ((enc v).length + 0 * 1))).take (v.toNat - 0))) (std.sof ((([] : List Int).drop 0).take v.toNat)) = true := fun h => by
    have : v.toNat = 0 := by omega
    rw [this]; rfl
  simp only [List.length_nil] at hll ⊢
  repeat' first
    | exact rfl
    | (refine And.intro ?_ ?_)
    | (refine ⟨⟨_, _, _⟩, rfl, ?_⟩)
    | (intro q; try dsimp only at q
       try simp only [decide_eq_true_eq, decide_eq_false_iff_not, Bool.not_eq_true', Bool.not_eq_false', beq_iff_eq, beq_eq_false_iff_ne, ne_eq] at q)
  all_goals first
    | exact trivial
    | omega
    | (dsimp only; omega)
    | (exfalso; omega)
    | (exfalso; rw [hseq (by omega)] at q; cases q)
set_option maxHeartbeats 1000000 in
theorem textsE_run (a : Int) (ha : -9223372036854775808 ≤ a ∧ a ≤ 9223372036854775807) :
    lawV std Try.prog (vintCons std enc okN valN advN [15, 24]) (inCallF 60) 90 (fun _ => none) Try.f6 (bodyS Try.prog 6) [.slice (some ⟨0, 0, none⟩) 0 0, mk (.int .i64 a)] (inH [none]) (fun v _ => v = .bool true) := by
  rw [textsE_vc]
  refine ⟨ha, fun u0 hk _ => ⟨u0, rfl, ⟨by omega, by omega⟩, fun _ u hu => ?_⟩⟩
  subst hu
  refine ⟨enc_ne _, enc_sz _, ⟨0, _, _⟩, rfl, enc_part _, fun _ r hr => ?_⟩
  obtain ⟨n', l⟩ := r
  dsimp only at hr
  have hl : l = enc u ++ [] := by rw [hr.2]; simp
  have hn' : n' = l.length := by rw [hr.1, hl]; simp
  clear hr
  have hll : l.length = (enc u).length + ([] : List Int).length := by rw [hl, List.length_append]
  subst hn'
  have he := enc_len u
  obtain ⟨f1, f2, f3⟩ := num_front (n := u) ⟨by omega, by omega⟩ []
  refine ⟨⟨0, _, _⟩, rfl, ⟨by dsimp only; omega, by dsimp only; (try simp at hll); omega⟩, fun _ r hr => ?_, fun hok _ _ => ?_⟩
  rotate_left
  · refine absurd ?_ hok
    show okN ((l.drop 0).take l.length)
    rw [List.drop_zero, List.take_length, hl]; exact f1
  obtain ⟨v, o, m⟩ := r
  dsimp only at hr ⊢
  rw [List.drop_zero, List.take_length, hl, f2, f3, ← hl] at hr
  obtain ⟨hv, ho, hm⟩ := hr
  have hd : l.drop ((enc u).length) = [] := by rw [hl]; simp
  rw [Nat.zero_add] at ho
  rw [hll, Nat.add_sub_cancel_left] at hm
  subst hv; subst ho; subst hm
  have hseq : v ≤ 0 → std.seq (std.sof (((l.drop ((enc v).length + 0 * 1))).take (v.toNat - 0))) (std.sof ((([] : List Int).drop 0).take v.toNat)) = true := fun h => by
    have : v.toNat = 0 := by omega
    rw [this]; rfl
  simp only [List.length_nil] at hll ⊢
  repeat' first
    | exact rfl
    | (refine And.intro ?_ ?_)
    | (refine ⟨⟨_, _, _⟩, rfl, ?_⟩)
    | (intro q; try dsimp only at q
       try simp only [decide_eq_true_eq, decide_eq_false_iff_not, Bool.not_eq_true', Bool.not_eq_false', beq_iff_eq, beq_eq_false_iff_ne, ne_eq] at q)
  all_goals first
    | exact trivial
    | omega
    | (dsimp only; omega)
    | (exfalso; omega)
    | (exfalso; rw [hseq (by omega)] at q; cases q)
set_option maxHeartbeats 2000000 in
theorem textsR_run (n : Nat) (xs : List Int) (hn : n ≤ xs.length) (a : Int) (ha : -9223372036854775808 ≤ a ∧ a ≤ 9223372036854775807) :
    lawV std Try.prog (vintCons std enc okN valN advN [15, 24]) (inCallF 60) 90 (fun _ => none) Try.f6 (bodyS Try.prog 6) [mk (.slice (some ⟨0, 0, none⟩) n U1), mk (.int .i64 a)] (inH [some (.row (.ints .u8 xs) true)]) (fun v _ => v = .bool true) := by
  have him : 0 ≤ std.imin (n : Int) 60 ∧ std.imin (n : Int) 60 ≤ (n : Int) ∧ std.imin (n : Int) 60 ≤ 60 := by
    show 0 ≤ (if (60 : Int) < (n : Int) then 60 else (n : Int)) ∧ (if (60 : Int) < (n : Int) then 60 else (n : Int)) ≤ (n : Int) ∧ (if (60 : Int) < (n : Int) then 60 else (n : Int)) ≤ 60
    split <;> omega
  rw [textsR_vc]
  generalize std.imin (n : Int) 60 = k at him ⊢
  refine ⟨⟨⟨him.1, him.2.1⟩, trivial⟩, fun h0 => ⟨by omega, ha, fun u0 hk _ => ⟨u0, rfl, ⟨by omega, by omega⟩, fun _ u hu => ?_⟩⟩, fun h0 => ⟨⟨by omega, by omega, by omega⟩, ha, fun u0 hk _ => ⟨u0, rfl, ⟨by omega, by omega⟩, fun _ u hu => ?_⟩⟩⟩
  · subst hu
    refine ⟨enc_ne _, enc_sz _, ⟨0, _, _⟩, rfl, enc_part _, fun _ r hr => ?_⟩
    obtain ⟨n', l⟩ := r
    dsimp only at hr
    have hl : l = enc u ++ [] := by rw [hr.2]; simp
    have hn' : n' = l.length := by rw [hr.1, hl]; simp
    clear hr
    have hll : l.length = (enc u).length + ([] : List Int).length := by rw [hl, List.length_append]
    subst hn'
    have he := enc_len u
    obtain ⟨f1, f2, f3⟩ := num_front (n := u) ⟨by omega, by omega⟩ []
    refine ⟨⟨0, _, _⟩, rfl, ⟨by dsimp only; omega, by dsimp only; (try simp at hll); omega⟩, fun _ r hr => ?_, fun hok _ _ => ?_⟩
    rotate_left
    · refine absurd ?_ hok
      show okN ((l.drop 0).take l.length)
      rw [List.drop_zero, List.take_length, hl]; exact f1
    obtain ⟨v, o, m⟩ := r
    dsimp only at hr ⊢
    rw [List.drop_zero, List.take_length, hl, f2, f3, ← hl] at hr
    obtain ⟨hv, ho, hm⟩ := hr
    have hd : l.drop ((enc u).length) = [] := by rw [hl]; simp
    rw [Nat.zero_add] at ho
    rw [hll, Nat.add_sub_cancel_left] at hm
    subst hv; subst ho; subst hm
    have hseq : v ≤ 0 → std.seq (std.sof (((l.drop ((enc v).length + 0 * 1))).take (v.toNat - 0))) (std.sof ((([] : List Int).drop 0).take v.toNat)) = true := fun h => by
      have : v.toNat = 0 := by omega
      rw [this]; rfl
    simp only [List.length_nil] at hll ⊢
    repeat' first
      | exact rfl
      | (refine And.intro ?_ ?_)
      | (refine ⟨⟨_, _, _⟩, rfl, ?_⟩)
      | (intro q; try dsimp only at q
         try simp only [decide_eq_true_eq, decide_eq_false_iff_not, Bool.not_eq_true', Bool.not_eq_false', beq_iff_eq, beq_eq_false_iff_ne, ne_eq] at q)
    all_goals first
      | exact trivial
      | omega
      | (dsimp only; omega)
      | (exfalso; omega)
      | (exfalso; rw [hseq (by omega)] at q; cases q)
  · have h0 : ¬ k.toNat - 0 = 0 := ne_of_beq_false h0
    have hbl : ([] ++ List.take (k.toNat - 0) (List.drop (0 + 0 * 1) xs)).length = k.toNat := by
      show (List.take (k.toNat - 0) xs).length = k.toNat
      rw [List.length_take]; omega
    generalize ([] : List Int) ++ List.take (k.toNat - 0) (List.drop (0 + 0 * 1) xs) = b at hbl ⊢
    subst hu
    have he0 := enc_len u
    refine ⟨enc_ne _, enc_sz _, beq_eq_false_iff_ne.2 (by omega), ⟨by omega, by simp, ⟨by omega, by omega⟩, by omega⟩, ⟨0, _, _⟩, rfl, ⟨by simp; omega, by dsimp only; omega⟩, fun _ r hr => ?_⟩
    obtain ⟨n', l⟩ := r
    dsimp only at hr
    have hl : l = enc u ++ b := by rw [hr.2]; simp [List.take_of_length_le (show b.length ≤ k.toNat by omega)]; exact List.take_of_length_le (by rw [List.length_append]; omega)
    have hn' : n' = l.length := by rw [hr.1, hl]; simp; omega
    clear hr
    have hll : l.length = (enc u).length + (b : List Int).length := by rw [hl, List.length_append]
    subst hn'
    have he := enc_len u
    obtain ⟨f1, f2, f3⟩ := num_front (n := u) ⟨by omega, by omega⟩ b
    refine ⟨⟨0, _, _⟩, rfl, ⟨by dsimp only; omega, by dsimp only; (try simp at hll); omega⟩, fun _ r hr => ?_, fun hok _ _ => ?_⟩
    rotate_left
    · refine absurd ?_ hok
      show okN ((l.drop 0).take l.length)
      rw [List.drop_zero, List.take_length, hl]; exact f1
    obtain ⟨v, o, m⟩ := r
    dsimp only at hr ⊢
    rw [List.drop_zero, List.take_length, hl, f2, f3, ← hl] at hr
    obtain ⟨hv, ho, hm⟩ := hr
    have hd : l.drop ((enc u).length) = b := by rw [hl]; simp
    rw [Nat.zero_add] at ho
    rw [hll, Nat.add_sub_cancel_left] at hm
    subst hv; subst ho; subst hm
    have hseq : 0 ≤ v → std.seq (std.sof ((l.drop ((enc v).length + 0 * 1)).take (v.toNat - 0))) (std.sof ((b.drop (0 + 0 * 1)).take (v.toNat - 0))) = true := fun _ => by
      show std.seq (std.sof ((l.drop (enc v).length).take (v.toNat - 0))) (std.sof (b.take (v.toNat - 0))) = true
      rw [hd]; exact seq_self _
    repeat' first
      | exact rfl
      | (refine And.intro ?_ ?_)
      | (refine ⟨⟨_, _, _⟩, rfl, ?_⟩)
      | (intro q; try dsimp only at q
         try simp only [decide_eq_true_eq, decide_eq_false_iff_not, Bool.not_eq_true', Bool.not_eq_false', beq_iff_eq, beq_eq_false_iff_ne, ne_eq] at q)
    all_goals first
      | exact trivial
      | omega
      | (dsimp only; omega)
      | (exfalso; omega)
      | (exfalso; rw [hseq (by omega)] at q; cases q)
theorem vintTexts_run (x0 : SrcI) (q0 : x0.Ok fun n r => ∃ zs, r = .ints .u8 zs ∧ n ≤ zs.length ∧ ∀ z ∈ zs, (Lit.int .u8 z).wf = true) (a1 : Int) (h1 : -9223372036854775808 ≤ a1 ∧ a1 ≤ 9223372036854775807) :
    lawV std Try.prog (vintCons std enc okN valN advN [15, 24]) (inCallF 60) 90 (fun _ => none) Try.f6 (bodyS Try.prog 6) [x0.arg 0, mk (.int .i64 a1)] (inH [x0.blk]) (fun v _ => v = .bool true) := by
  cases x0 with
  | nil => exact textsN_run a1 h1
  | empty => exact textsE_run a1 h1
  | row n r =>
    obtain ⟨zs, rfl, hn, hz⟩ := q0
    exact textsR_run n zs hn a1 h1
theorem vintTexts_body : Try.f6.body = some (bodyS Try.prog 6) := by kernel_rfl
set_option maxRecDepth 100000 in
theorem vintTexts_calls (w : World) (v0 : Value) (h0 : CellsIn w v0 fun n r => ∃ zs, r = .ints .u8 zs ∧ n ≤ zs.length ∧ ∀ z ∈ zs, (Lit.int .u8 z).wf = true) (a1 : Int) (h1 : -9223372036854775808 ≤ a1 ∧ a1 ≤ 9223372036854775807) :
    Calls Try.prog 6 #[v0, (.int .i64 a1)] w fun e w' => Below w.heap.size w w' ∧ e = .returned (.bool true) := by
  obtain ⟨x0, p0, q0, r0, i0⟩ := src_in h0
  exact law_in Try.progOk (vintCons_ok [15, 24]) (inCallF_ok 60) Try.func6 vintTexts_body (n := 90) [(p0, x0.blk)]
    (by intro x hx; simp only [List.mem_cons, List.not_mem_nil, or_false] at hx; rcases hx with rfl
        · exact i0) (vintTexts_run x0 q0 a1 h1) (All2.cons (r0 _ 0 rfl) (All2.cons (.zero (.mark (.plain rfl) rfl)) All2.nil))
set_option maxRecDepth 100000 in
theorem vintTexts_lifted (os : Os) (started : os.Started) (H : Type) (enc : TypeId × Value → H) :
    ReturnsInHanded {} Try.checked os 6 .any (Rows.vintTextsSpec.pre6 enc Try.prog Try.f6 Rows.vintTextsRow.domain false) (Rows.vintTextsSpec.post enc Try.prog Try.f6 false true false false) := by
  refine returnsInHanded_of_change (C := Try.checked) Try.own started (by kernel_rfl) Try.func6
    (ChangeSpec.witness6 (enc := enc) (C := Try.checked) false ⟨#[], #[.slice none 0 0, .int .i64 0], []⟩ 40 (by kernel_rfl) (by kernel_rfl) (by kernel_rfl) (by kernel_rfl)) ?_
  intro W base args ds gs before hval0 hW hcnd _
  have hval : ∀ (j : Nat) t v, Try.f6.params[j]? = some t → args[j]? = some v → Value.okWide Try.prog W .any base t v := hval0
  have hW' := hW
  obtain ⟨p, q, hA0, hV, rfl, hfz, hnd⟩ := hW
  have hA : DataW.TrodAll enc Try.prog W 0 (fun _ => true) true Try.f6.params.toList args.toList ds p := hA0
  rw [Try.params6] at hA hval
  have hAk := hA
  obtain ⟨v0, v1, d0, d1, p0, p1, rfl, rfl, rfl, h0, h1⟩ := trodAll_two' hA
  obtain ⟨rfl, rfl⟩ := trodVars_none hV
  have in0 := src_ints Try.underlying24 Try.underlying5 (by kernel_rfl) (hval 0 24 v0 rfl rfl) h0
  obtain ⟨a1, rfl, rfl, rfl, wa1⟩ := open_int Try.underlying3 (hval 1 3 v1 rfl rfl) h1
  clear hA0 hval0
  have hlt : ∀ x ∈ p0 ++ [] ++ ([] : List MemPlace), x.block < W.heap.size := fun x hx => hW'.lt x (by simpa using hx)
  refine (vintTexts_calls W v0 in0 a1 (i64_range wa1)).mono fun e W' ⟨hb, he⟩ => ?_
  subst he
  exact ⟨_, rfl, post_below (pa := p0 ++ [] ++ []) (pv := []) hW' (fun _ _ _ => trodAll_mk1 (shut_bool Try.underlying4 true)) (fun sp hsp => trodAll_stays (by kernel_rfl) hb (by decide +kernel) hAk hlt (fun x hx => hsp x (by simpa using hx))) (fun _ _ => rfl) (by simp) hb (ok_one (by kernel_rfl) rfl (okWide_bool_mk Try.underlying4 true))⟩

theorem vintTexts_holds : Rows.VintTextsSaid :=
  OpenClaim.holds_of_wide 6 Try.f6 rfl rfl rfl rfl rfl rfl rfl ⟨rfl, rfl, rfl, rfl, rfl⟩ rfl rfl rfl rfl rfl (by kernel_rfl) Try.func6 (by kernel_rfl)
    (of_decide_eq_true (by kernel_rfl)) (by unfold Func.isWrapper; first | (rw [if_pos (by decide +kernel)]; kernel_rfl) | (rw [if_neg (by decide +kernel)]; exact ⟨rfl, rfl⟩))
    (fun os started H enc _ => vintTexts_lifted os started H enc)
end Go.Proofs.Ytgegjbapgccbaaa
