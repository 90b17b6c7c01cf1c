/-
  StakeRecords: the program's law is true for all numbers and texts, and what was there stays as it was. No conditions.
-/
import Derived.Test.YtecdmdglkkeidaaRecsV
import Derived.Test.YtecdmdglkkeidaaAbs50
import Derived.ChangeMaps5
namespace Go.Proofs.Ytecdmdglkkeidaa
open Go.ChangeShapes Go.WideShapes Go.ChangeAt Go.RowKit Go.Abs Go.ChangeMaps

theorem stakeRuns_run : (callN vbeq Try.prog X0 60 3 [] H0).map (·.1) = some (.bool true) := by
  rw [callF_eq]
  kernel_rfl
theorem stakeRuns_body : ∃ c, Try.f3.body = some c := ⟨_, rfl⟩
theorem recX_ok : ∀ args h K, recX std recOf args h K → CallSem Try.prog 13 args h K := by
  intro args h K e
  unfold recX at e
  split at e
  case h_2 => exact e.elim
  split at e
  · exact recC_ok _ _ _ e
  · exact text_sem Try.progOk (noCon_ok _) (inCallF_ok 60) Try.func13 rec_body e
theorem recsCons_ok : ConOk Try.prog (recsCons std recOf okR tokR rewR) := by
  obtain ⟨c, hc⟩ := stakeRuns_body
  refine conL_ok fun x hx => ?_
  simp only [List.mem_cons, List.not_mem_nil, or_false] at hx
  rcases hx with rfl | rfl | rfl | rfl
  · exact withinC_ok
  · exact recX_ok
  · exact rdC_ok
  · exact closedC_ok (knownOk_none Try.prog) Try.func3 hc rfl stakeRuns_run
theorem num_rest {n : Int} (h : 0 ≤ n ∧ n ≤ 1099511627775) (b : List Int) : okN (enc n ++ b) ∧ valN (enc n ++ b) = n ∧ advN (enc n ++ b) = (enc n).length := by
  unfold okN valN advN
  rw [numL_enc h]
  exact ⟨rfl, rfl, rfl⟩
/-- A record, and what stands behind it. -/
theorem two_rest {x y : Int} (hx : 0 ≤ x ∧ x ≤ 1073741824) (hy : 0 ≤ y ∧ y ≤ 1073741824) (b : List Int) : okN (enc x ++ (enc y ++ b)) ∧ valN (enc x ++ (enc y ++ b)) = x ∧ advN (enc x ++ (enc y ++ b)) = (enc x).length ∧
    okN ((enc x ++ (enc y ++ b)).drop (enc x).length) ∧ valN ((enc x ++ (enc y ++ b)).drop (enc x).length) = y ∧ advN ((enc x ++ (enc y ++ b)).drop (enc x).length) = (enc y).length := by
  obtain ⟨h1, h2, h3⟩ := num_rest (n := x) ⟨hx.1, by omega⟩ (enc y ++ b)
  obtain ⟨h4, h5, h6⟩ := num_rest (n := y) ⟨hy.1, by omega⟩ b
  rw [List.drop_left]
  exact ⟨h1, h2, h3, h4, h5, h6⟩
theorem rec_read {x y : Int} (hx : 0 ≤ x ∧ x ≤ 1073741824) (hy : 0 ≤ y ∧ y ≤ 1073741824) : okR (std.sbytes (recOf x y)) ∧ tokR (std.sbytes (recOf x y)) = x ∧ rewR (std.sbytes (recOf x y)) = y := by
  obtain ⟨h1, h2, h3, h4, h5, h6⟩ := two_rest hx hy []
  rw [List.append_nil] at h1 h2 h3 h4 h5 h6
  unfold okR tokR rewR
  rw [rec_bytes, h3, h2, h5, h6, List.length_append]
  exact ⟨⟨h1, h4, rfl, hx.2, hy.2⟩, rfl, rfl⟩
theorem rec_more {x y : Int} (hx : 0 ≤ x ∧ x ≤ 1073741824) (hy : 0 ≤ y ∧ y ≤ 1073741824) (s : ByteArray) (hs : 0 < std.slen s) : ¬ okR (std.sbytes (recOf x y ++ s)) := by
  have hb : std.sbytes (recOf x y ++ s) = enc x ++ (enc y ++ std.sbytes s) := by
    have h1 := rec_bytes x y
    show ((recOf x y ++ s).data.toList.map fun b => (b.toNat : Int)) = _
    rw [ByteArray.data_append, Array.toList_append, List.map_append]
    have h1 : ((recOf x y).data.toList.map fun b => (b.toNat : Int)) = enc x ++ enc y := h1
    rw [h1, List.append_assoc]; rfl
  obtain ⟨h1, h2, h3, h4, h5, h6⟩ := two_rest hx hy (std.sbytes s)
  rw [hb]
  rintro ⟨_, _, h7, _, _⟩
  rw [h3, h6] at h7
  have := sb_len s
  simp only [List.length_append] at h7
  omega
theorem seq_bytes {a b : ByteArray} : std.seq a b = true ↔ std.sbytes a = std.sbytes b := by
  rw [seq_iff]
  refine ⟨fun h => congrArg (List.map fun b => ((b : UInt8).toNat : Int)) h, fun h => ?_⟩
  have h : a.data.toList.map (fun b => (b.toNat : Int)) = b.data.toList.map (fun b => (b.toNat : Int)) := h
  exact (List.map_inj_right (fun x y hxy => UInt8.toNat_inj.1 (Int.ofNat_inj.1 hxy))).1 h
/-- What is read is written as it was. -/
theorem rec_only {s : ByteArray} (h : okR (std.sbytes s)) : (0 ≤ tokR (std.sbytes s) ∧ tokR (std.sbytes s) ≤ 1073741824) ∧ (0 ≤ rewR (std.sbytes s) ∧ rewR (std.sbytes s) ≤ 1073741824) ∧ std.seq (recOf (tokR (std.sbytes s)) (rewR (std.sbytes s))) s = true := by
  have hb := sb_bytes s
  rw [seq_bytes, rec_bytes]
  unfold tokR rewR
  generalize std.sbytes s = l at h hb ⊢
  obtain ⟨h1, h2, h3, h4, h5⟩ := h
  obtain ⟨b1, b2, b3, b4, b5⟩ := num_only hb (ok_some h1)
  obtain ⟨c1, c2, c3, c4, c5⟩ := num_only (fun x hx => hb x (List.mem_of_mem_drop hx)) (ok_some h2)
  refine ⟨⟨b1, h4⟩, ⟨c1, h5⟩, ?_⟩
  rw [← b3, ← c3]
  have : (l.drop (advN l)).take (advN (l.drop (advN l))) = l.drop (advN l) := List.take_of_length_le (by rw [List.length_drop]; omega)
  rw [this, List.take_append_drop]
theorem rec_eq {x y z w : Int} (hx : 0 ≤ x ∧ x ≤ 1073741824) (hy : 0 ≤ y ∧ y ≤ 1073741824) (hz : 0 ≤ z ∧ z ≤ 1073741824) (hw : 0 ≤ w ∧ w ≤ 1073741824) : std.seq (recOf x y) (recOf z w) = (x == z && y == w) := by
  rw [Bool.eq_iff_iff, Bool.and_eq_true, beq_iff_eq, beq_iff_eq, seq_bytes]
  constructor
  · intro h
    obtain ⟨_, h1, h2⟩ := rec_read hx hy
    obtain ⟨_, h3, h4⟩ := rec_read hz hw
    rw [h] at h1 h2
    exact ⟨h1.symm.trans h3, h2.symm.trans h4⟩
  · rintro ⟨rfl, rfl⟩; rfl
theorem imin_key (L : Nat) (k : Int) (hk : 0 ≤ k) : 0 ≤ std.imin (L : Int) k ∧ std.imin (L : Int) k ≤ (L : Int) ∧ std.imin (L : Int) k ≤ k := by
  show 0 ≤ (if k < (L : Int) then k else (L : Int)) ∧ (if k < (L : Int) then k else (L : Int)) ≤ (L : Int) ∧ (if k < (L : Int) then k else (L : Int)) ≤ k
  split <;> omega
theorem slen_begin (s : ByteArray) : std.slen ((ByteArray.mk (Array.mk [(115 : UInt8), (47 : UInt8)])) ++ s) = 2 + std.slen s := slen_sapp (ByteArray.mk (Array.mk [(115 : UInt8), (47 : UInt8)])) s
theorem slen_two : std.slen (ByteArray.mk (Array.mk [(115 : UInt8), (47 : UInt8)])) = 2 := rfl
theorem slen_x (s : ByteArray) : std.slen (s ++ (ByteArray.mk (Array.mk [(120 : UInt8)]))) = std.slen s + 1 := slen_sapp s (ByteArray.mk (Array.mk [(120 : UInt8)]))
theorem slen_x1 : std.slen (ByteArray.mk (Array.mk [(120 : UInt8)])) = 1 := rfl
theorem seq_key (s : ByteArray) : std.seq (std.ssub ((ByteArray.mk (Array.mk [(115 : UInt8), (47 : UInt8)])) ++ s) 0 (Int.toNat (2 : Int))) (ByteArray.mk (Array.mk [(115 : UInt8), (47 : UInt8)])) = true :=
  seq_begin (ByteArray.mk (Array.mk [(115 : UInt8), (47 : UInt8)])) s 2 rfl
set_option maxHeartbeats 4000000 in
theorem recs_run (a b c d : Int) (key raw : ByteArray) (ha : -9223372036854775808 ≤ a ∧ a ≤ 9223372036854775807) (hb : -9223372036854775808 ≤ b ∧ b ≤ 9223372036854775807) (hc : -9223372036854775808 ≤ c ∧ c ≤ 9223372036854775807) (hd : -9223372036854775808 ≤ d ∧ d ≤ 9223372036854775807) :
    lawV std Try.prog (recsCons std recOf okR tokR rewR) (inCallF 60) 90 (fun _ => none) Try.f5 (bodyS Try.prog 5) [mk (.int .i64 a), mk (.int .i64 b), mk (.int .i64 c), mk (.int .i64 d), mk (.string key), mk (.string raw)] (inH []) (fun v _ => v = .bool true) := by
  rw [recs_vc]
  have hik := imin_key (std.slen key) 10 (by decide)
  have hir := imin_key (std.slen raw) 12 (by decide)
  have hsk := slen_ssub key (Int.toNat (std.imin (std.slen key : Int) 10))
  have hsr := slen_ssub raw (Int.toNat (std.imin (std.slen raw : Int) 12))
  have hk10 : std.slen (std.ssub key 0 (Int.toNat (std.imin (std.slen key : Int) 10))) ≤ 10 := by omega
  have hr12 : std.slen (std.ssub raw 0 (Int.toNat (std.imin (std.slen raw : Int) 12))) ≤ 12 := by omega
  clear hsk hsr
  refine ⟨ha, fun x hx _ => ⟨hb, fun y hy _ => ⟨hc, fun z hz _ => ⟨hd, fun w hw _ => ⟨⟨hx, hy⟩, ?_⟩⟩⟩⟩⟩
  generalize std.ssub key 0 (Int.toNat (std.imin (std.slen key : Int) 10)) = K at hk10 ⊢
  generalize std.ssub raw 0 (Int.toNat (std.imin (std.slen raw : Int) 12)) = R at hr12 ⊢
  have hlen : std.slen (recOf x y) ≤ 12 := by
    have e1 := enc_len x
    have e2 := enc_len y
    rw [rec_len]; omega
  obtain ⟨r1, r2, r3⟩ := rec_read hx hy
  have rm := rec_more hx hy (ByteArray.mk (Array.mk [(120 : UInt8)])) (by rw [slen_x1]; omega)
  have hre := rec_eq hx hy hz hw
  simp only [hre, slen_begin, slen_two, slen_x1, seq_key, seq_self]
  refine ⟨_, rfl, by omega, fun _ r hr => ?_, fun hok => absurd r1 hok⟩
  obtain ⟨u, v⟩ := r
  dsimp only at hr ⊢
  rw [r2, r3] at hr
  obtain ⟨rfl, rfl⟩ := hr
  refine ⟨⟨⟨hir.1, hir.2.1⟩, trivial⟩, R, rfl, by omega, fun hok r hr => ?_, fun hok _ _ => ?_⟩
  · obtain ⟨o1, o2, o3⟩ := rec_only hok
    obtain ⟨p, q⟩ := r
    dsimp only at hr ⊢
    rw [← hr.1] at o1; rw [← hr.2] at o2; rw [← hr.1, ← hr.2] at o3
    refine ⟨⟨o1, o2⟩, fun q => absurd q (by rw [o3]; simp), fun _ => ⟨by omega, _, rfl, by rw [slen_x]; omega, fun hok => absurd hok rm, fun _ _ _ => ⟨⟨⟨hik.1, hik.2.1⟩, trivial⟩, ?_⟩⟩⟩
    repeat' first
      | exact trivial
      | exact rfl
      | (refine And.intro ?_ ?_)
      | (intro q; simp only [decide_eq_true_eq, decide_eq_false_iff_not, beq_iff_eq, beq_eq_false_iff_ne, ne_eq, Bool.and_eq_true, Bool.and_eq_false_iff, Bool.true_eq_false, not_true_eq_false] at q)
      | (intro _)
    all_goals first
      | omega
      | (exfalso; omega)
  · refine ⟨by omega, _, rfl, by rw [slen_x]; omega, fun hok => absurd hok rm, fun _ _ _ => ⟨⟨⟨hik.1, hik.2.1⟩, trivial⟩, ?_⟩⟩
    repeat' first
      | exact trivial
      | exact rfl
      | (refine And.intro ?_ ?_)
      | (intro q; simp only [decide_eq_true_eq, decide_eq_false_iff_not, beq_iff_eq, beq_eq_false_iff_ne, ne_eq, Bool.and_eq_true, Bool.and_eq_false_iff, Bool.true_eq_false, not_true_eq_false] at q)
      | (intro _)
    all_goals first
      | omega
      | (exfalso; omega)
theorem stakeRecords_run (a0 : Int) (h0 : -9223372036854775808 ≤ a0 ∧ a0 ≤ 9223372036854775807) (a1 : Int) (h1 : -9223372036854775808 ≤ a1 ∧ a1 ≤ 9223372036854775807) (a2 : Int) (h2 : -9223372036854775808 ≤ a2 ∧ a2 ≤ 9223372036854775807) (a3 : Int) (h3 : -9223372036854775808 ≤ a3 ∧ a3 ≤ 9223372036854775807) (a4 : ByteArray) (_ : a4.size ≤ maxLen) (a5 : ByteArray) (_ : a5.size ≤ maxLen) :
    lawV std Try.prog (recsCons std recOf okR tokR rewR) (inCallF 60) 90 (fun _ => none) Try.f5 (bodyS Try.prog 5) [mk (.int .i64 a0), mk (.int .i64 a1), mk (.int .i64 a2), mk (.int .i64 a3), mk (.string a4), mk (.string a5)] (inH []) (fun v _ => v = .bool true) := recs_run a0 a1 a2 a3 a4 a5 h0 h1 h2 h3
theorem stakeRecords_body : Try.f5.body = some (bodyS Try.prog 5) := by kernel_rfl
set_option maxRecDepth 100000 in
theorem stakeRecords_calls (w : World) (a0 : Int) (h0 : -9223372036854775808 ≤ a0 ∧ a0 ≤ 9223372036854775807) (a1 : Int) (h1 : -9223372036854775808 ≤ a1 ∧ a1 ≤ 9223372036854775807) (a2 : Int) (h2 : -9223372036854775808 ≤ a2 ∧ a2 ≤ 9223372036854775807) (a3 : Int) (h3 : -9223372036854775808 ≤ a3 ∧ a3 ≤ 9223372036854775807) (a4 : ByteArray) (h4 : a4.size ≤ maxLen) (a5 : ByteArray) (h5 : a5.size ≤ maxLen) :
    Calls Try.prog 5 #[(.int .i64 a0), (.int .i64 a1), (.int .i64 a2), (.int .i64 a3), (.string a4), (.string a5)] w fun e w' => Below w.heap.size w w' ∧ e = .returned (.bool true) := by
  exact law_in Try.progOk recsCons_ok (inCallF_ok 60) Try.func5 stakeRecords_body (n := 90) []
    (by intro x hx; cases hx) (stakeRecords_run a0 h0 a1 h1 a2 h2 a3 h3 a4 h4 a5 h5) (All2.cons (.zero (.mark (.plain rfl) rfl)) (All2.cons (.zero (.mark (.plain rfl) rfl)) (All2.cons (.zero (.mark (.plain rfl) rfl)) (All2.cons (.zero (.mark (.plain rfl) rfl)) (All2.cons (.zero (.mark (.plain rfl) rfl)) (All2.cons (.zero (.mark (.plain rfl) rfl)) All2.nil))))))
set_option maxRecDepth 100000 in
theorem stakeRecords_lifted (os : Os) (started : os.Started) (H : Type) (enc : TypeId × Value → H) :
    ReturnsInHanded {} Try.checked os 5 .any (Rows.stakeRecordsSpec.pre6 enc Try.prog Try.f5 Rows.stakeRecordsRow.domain false) (Rows.stakeRecordsSpec.post enc Try.prog Try.f5 false true false false) := by
  refine returnsInHanded_of_change (C := Try.checked) Try.own started (by kernel_rfl) Try.func5
    (ChangeSpec.witness6 (enc := enc) (C := Try.checked) false ⟨#[], #[.int .i64 0, .int .i64 0, .int .i64 0, .int .i64 0, .string ⟨#[]⟩, .string ⟨#[]⟩], []⟩ 40 (by kernel_rfl) (by kernel_rfl) (by kernel_rfl) (by kernel_rfl)) ?_
  intro W base args ds gs before hval0 hW hcnd _
  have hval : ∀ (j : Nat) t v, Try.f5.params[j]? = some t → args[j]? = some v → Value.okWide Try.prog W .any base t v := hval0
  have hW' := hW
  obtain ⟨p, q, hA0, hV, rfl, hfz, hnd⟩ := hW
  have hA : DataW.TrodAll enc Try.prog W 0 (fun _ => true) true Try.f5.params.toList args.toList ds p := hA0
  rw [Try.params5] at hA hval
  have hAk := hA
  obtain ⟨v0, v1, v2, v3, v4, v5, d0, d1, d2, d3, d4, d5, p0, p1, p2, p3, p4, p5, rfl, rfl, rfl, h0, h1, h2, h3, h4, h5⟩ := trodAll_six' hA
  obtain ⟨rfl, rfl⟩ := trodVars_none hV
  obtain ⟨a0, rfl, rfl, rfl, wa0⟩ := open_int Try.underlying3 (hval 0 3 v0 rfl rfl) h0
  obtain ⟨a1, rfl, rfl, rfl, wa1⟩ := open_int Try.underlying3 (hval 1 3 v1 rfl rfl) h1
  obtain ⟨a2, rfl, rfl, rfl, wa2⟩ := open_int Try.underlying3 (hval 2 3 v2 rfl rfl) h2
  obtain ⟨a3, rfl, rfl, rfl, wa3⟩ := open_int Try.underlying3 (hval 3 3 v3 rfl rfl) h3
  obtain ⟨a4, rfl, rfl, rfl, wa4⟩ := open_string Try.underlying9 (hval 4 9 v4 rfl rfl) h4
  obtain ⟨a5, rfl, rfl, rfl, wa5⟩ := open_string Try.underlying9 (hval 5 9 v5 rfl rfl) h5
  clear hA0 hval0
  have hlt : ∀ x ∈ [] ++ [] ++ [] ++ [] ++ [] ++ [] ++ ([] : List MemPlace), x.block < W.heap.size := fun x hx => by simp at hx
  refine (stakeRecords_calls W a0 (i64_range wa0) a1 (i64_range wa1) a2 (i64_range wa2) a3 (i64_range wa3) a4 wa4 a5 wa5).mono fun e W' ⟨hb, he⟩ => ?_
  subst he
  exact ⟨_, rfl, post_below (pa := [] ++ [] ++ [] ++ [] ++ [] ++ [] ++ []) (pv := []) hW' (fun _ _ _ => trodAll_mk1 (shut_bool Try.underlying4 true)) (fun sp _ => trodAll_stays (by kernel_rfl) hb (by decide +kernel) hAk hlt (fun x hx => by simp at hx)) (fun _ _ => rfl) (by simp) hb (ok_one (by kernel_rfl) rfl (okWide_bool_mk Try.underlying4 true))⟩

theorem stakeRecords_holds : Rows.StakeRecordsSaid :=
  OpenClaim.holds_of_wide 5 Try.f5 rfl rfl rfl rfl rfl rfl rfl ⟨rfl, rfl, rfl, rfl, rfl⟩ rfl rfl rfl rfl rfl (by kernel_rfl) Try.func5 (by kernel_rfl)
    (of_decide_eq_true (by kernel_rfl)) (by unfold Func.isWrapper; first | (rw [if_pos (by decide +kernel)]; kernel_rfl) | (rw [if_neg (by decide +kernel)]; exact ⟨rfl, rfl⟩))
    (fun os started H enc _ => stakeRecords_lifted os started H enc)
end Go.Proofs.Ytecdmdglkkeidaa
