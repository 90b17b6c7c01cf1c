/-
  VintBack: the program's law is true for all numbers, texts, hashes, and what was there stays as it was. No conditions.
-/
import Derived.Test.YtgegjbapgccbaaaBackV
import Derived.Test.YtgegjbapgccbaaaAbs56
import Derived.ChangeMaps5
namespace Go.Proofs.Ytgegjbapgccbaaa
open Go.ChangeShapes Go.WideShapes Go.ChangeAt Go.RowKit Go.Abs Go.ChangeMaps

theorem backCons_ok (l : List Nat) : ConOk Try.prog (backCons std enc okN valN advN l) := by
  obtain ⟨c, hc⟩ := vintRuns_body
  refine draw_ok (tellO_ok (conL_ok fun x hx => ?_) _) fun x hx => ?_
  · simp only [List.mem_cons, List.not_mem_nil, or_false] at hx
    rcases hx with rfl | rfl | rfl | rfl
    · exact withinS_ok
    · exact reC_ok
    · exact numX_ok
    · exact closedC_ok (knownOk_none Try.prog) Try.func3 hc rfl vintRuns_run
  · simp only [List.mem_cons, List.not_mem_nil, or_false] at hx
    rcases hx with rfl | rfl | rfl
    · exact takD_ok
    · exact putD_ok
    · exact txtD_ok
theorem num_take_val {n : Int} (hn : 0 ≤ n ∧ n ≤ 1099511627775) {R : List Int} {j : Nat} (h : (enc n).length ≤ j) : okN ((enc n ++ R).take j) ∧ valN ((enc n ++ R).take j) = n ∧ advN ((enc n ++ R).take j) = (enc n).length := by
  rw [List.take_append, List.take_of_length_le h]
  unfold okN valN advN
  rw [numL_enc hn]
  exact ⟨rfl, rfl, rfl⟩
theorem num_take_ok {n : Int} {R : List Int} {j : Nat} (h : okN ((enc n ++ R).take j)) : (enc n).length ≤ j := by
  rcases Nat.lt_or_ge j (enc n).length with h1 | h1
  · rw [List.take_append_of_le_length (by omega)] at h
    unfold okN at h
    rw [num_cut h1] at h; cases h
  · exact h1
theorem tk {l : List Int} {n : Nat} (h : l.length ≤ n) : (l.drop 0).take n = l := by rw [List.drop_zero, List.take_of_length_le h]
theorem part_take {L : List Int} {c o j : Nat} (h : o + j ≤ c) : ((L.take c).drop o).take j = (L.drop o).take j := by
  rw [List.drop_take, List.take_take, Nat.min_eq_left (by omega)]
theorem drop_at {A B : List Int} {o : Nat} (h : A.length = o) : (A ++ B).drop o = B := by rw [← h, List.drop_left]
theorem take_at {A B : List Int} {j : Nat} (h : A.length = j) : (A ++ B).take j = A := by rw [← h, List.take_left]
theorem seq_sof (t : ByteArray) : std.seq (std.sof (std.sbytes t)) t = true := by
  rw [seq_iff]
  show (((t.data.toList.map fun b => (b.toNat : Int)).map fun n => UInt8.ofNat n.toNat).toArray).toList = t.data.toList
  rw [List.map_map]
  induction t.data.toList with
  | nil => rfl
  | cons x l ih =>
    have : UInt8.ofNat ((x.toNat : Int).toNat) = x := by simp
    simp only [List.map_cons, Function.comp_apply, this] at ih ⊢
    rw [ih]
theorem leq_self (l : List Int) : std.leq l l = true := by show (l == l) = true; exact beq_self_eq_true l
set_option maxHeartbeats 4000000 in
theorem back_run (a b : Int) (s : ByteArray) (h : List Int) (c : Int) :
    lawV std Try.prog (backCons std enc okN valN advN [36, 44]) (inCallF 60) 90 (fun _ => none) Try.f8 (bodyS Try.prog 8) [mk (.int .i64 a), mk (.int .i64 b), mk (.string s), hashA std h, mk (.int .i64 c)] (inH []) (fun v _ => v = .bool true) := by
  rw [back_vc]
  have him : 0 ≤ std.imin (std.slen s : Int) 150 ∧ std.imin (std.slen s : Int) 150 ≤ (std.slen s : Int) ∧ std.imin (std.slen s : Int) 150 ≤ 150 := by
    show 0 ≤ (if (150 : Int) < (std.slen s : Int) then 150 else (std.slen s : Int)) ∧ (if (150 : Int) < (std.slen s : Int) then 150 else (std.slen s : Int)) ≤ (std.slen s : Int) ∧ (if (150 : Int) < (std.slen s : Int) then 150 else (std.slen s : Int)) ≤ 150
    split <;> omega
  have hsl := slen_ssub s (Int.toNat (std.imin (std.slen s : Int) 150))
  have ht : std.slen (std.ssub s 0 (Int.toNat (std.imin (std.slen s : Int) 150))) ≤ 150 := by omega
  clear hsl
  refine ⟨by decide, fun n hn => ⟨by decide, fun m hm => ⟨⟨⟨him.1, him.2.1⟩, trivial⟩, n, rfl, hn, fun _ => ⟨_, rfl, by omega, fun _ => ?_⟩⟩⟩⟩
  generalize std.ssub s 0 (Int.toNat (std.imin (std.slen s : Int) 150)) = t at ht ⊢
  have e1 := enc_len n
  have e2 := enc_len (std.slen t : Int)
  have e3 := enc_len m
  have hT := sbytes_len t
  have hH : (g32 h).length = 32 := rfl
  generalize hk : (enc (std.slen t : Int)).length = K at e2 ⊢
  have f1 : (enc n ++ (enc (std.slen t : Int) ++ std.sbytes t)).length = (enc n).length + (K + std.slen t) := by simp only [List.length_append, hk, hT]
  have g1 : ((enc n).drop 0).take (enc n).length = enc n := tk (Nat.le_refl _)
  have g2 : ((enc (std.slen t : Int) ++ std.sbytes t).drop 0).take (K + std.slen t) = enc (std.slen t : Int) ++ std.sbytes t := tk (by simp only [List.length_append, hk, hT]; omega)
  have g3 : ((enc n ++ (enc (std.slen t : Int) ++ std.sbytes t)).drop 0).take ((enc n).length + (K + std.slen t)) = enc n ++ (enc (std.slen t : Int) ++ std.sbytes t) := tk (by omega)
  have g4 : (((enc n ++ (enc (std.slen t : Int) ++ std.sbytes t)) ++ g32 h).drop 0).take ((enc n).length + (K + std.slen t) + 32) = (enc n ++ (enc (std.slen t : Int) ++ std.sbytes t)) ++ g32 h := tk (by rw [List.length_append, f1, hH]; omega)
  have g5 : ((enc m).drop 0).take (enc m).length = enc m := tk (Nat.le_refl _)
  simp only [g1, g2, g3, g4]
  refine ⟨beq_eq_false_iff_ne.2 (by omega), ⟨by simp only [List.length_append, hk, hT]; omega, by omega, ⟨by omega, by omega⟩, by omega⟩, ⟨by omega, ⟨by omega, by omega⟩, by omega⟩, m, rfl, ⟨by omega, by omega⟩, fun _ => ⟨beq_eq_false_iff_ne.2 (by omega), ⟨by omega, by rw [List.length_append, f1, hH]; omega, ⟨by omega, by omega⟩, by omega⟩, ⟨trivial, trivial⟩, ⟨trivial, trivial⟩, ⟨trivial, trivial⟩, ?_⟩⟩
  simp only [g5]
  have gL : ((enc n ++ (enc (std.slen t : Int) ++ std.sbytes t)) ++ g32 h) ++ enc m = enc n ++ (enc (std.slen t : Int) ++ (std.sbytes t ++ (g32 h ++ enc m))) := by simp only [List.append_assoc]
  rw [gL]
  generalize hL : enc n ++ (enc (std.slen t : Int) ++ (std.sbytes t ++ (g32 h ++ enc m))) = L
  generalize hN : (enc n).length + (K + std.slen t) + 32 + (enc m).length = N
  have hLN : L.length = N := by rw [← hL]; simp only [List.length_append, hk, hT, hH]; omega
  have D1 : L.drop (enc n).length = enc (std.slen t : Int) ++ (std.sbytes t ++ (g32 h ++ enc m)) := by rw [← hL]; exact drop_at rfl
  have D2 : L.drop ((enc n).length + K) = std.sbytes t ++ (g32 h ++ enc m) := by rw [← List.drop_drop, D1]; exact drop_at hk
  have D3 : L.drop ((enc n).length + K + std.slen t) = g32 h ++ enc m := by rw [← List.drop_drop, D2]; exact drop_at hT
  have D4 : L.drop ((enc n).length + K + std.slen t + 32) = enc m ++ [] := by rw [← List.drop_drop, D3, drop_at hH, List.append_nil]
  have hst : 0 ≤ (std.slen t : Int) ∧ (std.slen t : Int) ≤ 1099511627775 := by omega
  have hsq : std.seq (std.sof ((L.drop ((enc n).length + K)).take (std.slen t))) t = true := by rw [D2, take_at hT]; exact seq_sof t
  have hlq : std.leq (g32 ((L.drop ((enc n).length + K + std.slen t)).take 32)) (g32 h) = true := by rw [D3, take_at hH]; exact leq_self _
  have hN1 : N ≤ 1000 := by omega
  clear gL g1 g2 g3 g4 g5 f1 D3
  refine ⟨⟨0, _, _⟩, rfl, ⟨by dsimp only; omega, by dsimp only; omega⟩, fun _ r hr => ?_⟩
  obtain ⟨rn, rx⟩ := r
  dsimp only at hr
  rw [tk (by omega)] at hr
  obtain ⟨rfl, rfl⟩ := hr
  have P0 : (rx.drop 0).take rn = (enc n ++ (enc (std.slen t : Int) ++ (std.sbytes t ++ (g32 h ++ enc m)))).take rn := by rw [hL]; rfl
  obtain ⟨v1, v2, v3⟩ := num_take_val ⟨hn.1, hn.2⟩ (R := enc (std.slen t : Int) ++ (std.sbytes t ++ (g32 h ++ enc m))) (show (enc n).length ≤ rn by omega)
  refine ⟨⟨0, _, _⟩, rfl, ⟨by dsimp only; omega, by dsimp only; omega⟩, fun _ r hr => ?_, fun hok => absurd (by dsimp only; rw [P0]; exact v1) hok⟩
  obtain ⟨v, o, j⟩ := r
  dsimp only at hr
  rw [P0, v2, v3, Nat.zero_add] at hr
  obtain ⟨rfl, rfl, rfl⟩ := hr
  dsimp only
  obtain ⟨v4, v5, v6⟩ := num_take_val hst (R := std.sbytes t ++ (g32 h ++ enc m)) (show (enc (std.slen t : Int)).length ≤ rn - (enc v).length by omega)
  rw [hk] at v6
  refine ⟨⟨_, _, _⟩, rfl, ⟨by dsimp only; omega, by dsimp only; omega⟩, fun _ r hr => ?_, fun hok => absurd (by dsimp only; rw [D1]; exact v4) hok⟩
  obtain ⟨w, o, j⟩ := r
  dsimp only at hr
  rw [D1, v5, v6] at hr
  obtain ⟨rfl, rfl, rfl⟩ := hr
  dsimp only
  refine ⟨fun q => absurd (of_decide_eq_true q) (by omega), fun _ => ⟨⟨⟨by omega, by omega⟩, trivial⟩, ⟨trivial, by omega, by omega⟩, by omega, ⟨_, _, _⟩, rfl, trivial, fun q => ?_, fun q => absurd q (by dsimp only; omega)⟩⟩
  dsimp only at q ⊢
  obtain ⟨v7, v8, v9⟩ := num_take_val (n := m) ⟨by omega, by omega⟩ (R := []) (show (enc m).length ≤ rn - (enc v).length - K - (std.slen t : Int).toNat - 32 by omega)
  have P3 : (enc v).length + K + (std.slen t : Int).toNat * 1 = (enc v).length + K + std.slen t := by omega
  rw [P3]
  have x1 : std.seq (std.sof (List.take ((std.slen t : Int).toNat - 0) (List.drop ((enc v).length + K + 0 * 1) rx))) t = true := hsq
  refine ⟨by omega, ⟨_, _, _⟩, rfl, ⟨by dsimp only; omega, by dsimp only; omega⟩, fun _ r hr => ?_, fun hok => absurd (by dsimp only; rw [D4]; exact v7) hok⟩
  obtain ⟨w, o, j⟩ := r
  dsimp only at hr
  rw [D4, v8, v9] at hr
  obtain ⟨rfl, rfl, rfl⟩ := hr
  dsimp only
  refine ⟨fun q => absurd q (by simp), fun _ => ⟨fun q => absurd q (by rw [x1]; simp), fun _ => ⟨fun q => absurd q (by rw [hlq]; simp), fun _ => ⟨fun q => absurd q (by simp), fun _ => ⟨fun _ => ?_, fun q => absurd (ne_of_beq_false q) (by omega)⟩⟩⟩⟩⟩
  refine ⟨⟨_, _, _⟩, rfl, ⟨by dsimp only; omega, by dsimp only; omega⟩, fun hok => ?_, fun _ _ _ => ?_⟩
  · exfalso
    dsimp only at hok
    rw [show rn - (enc v).length - K - (std.slen t : Int).toNat - 32 - (enc w).length = 0 by omega, List.take_zero] at hok
    unfold okN at hok
    simp [numL] at hok
  refine ⟨by omega, ⟨by omega, by omega, by omega⟩, fun c hc => ⟨⟨⟨by omega, by omega⟩, trivial⟩, ⟨0 + 0 * 1, _, _⟩, rfl, ⟨by dsimp only; omega, by dsimp only; omega⟩, fun _ r hr => ?_⟩⟩
  obtain ⟨cn, X⟩ := r
  dsimp only at hr
  rw [Nat.sub_zero, show (0 + 0 * 1 : Nat) = 0 from rfl, List.drop_zero] at hr
  obtain ⟨rfl, rfl⟩ := hr
  generalize hcn : c.toNat = cn
  have hXl : (rx.take cn).length = cn := by rw [List.length_take]; omega
  have Q0 : ((rx.take cn).drop 0).take cn = (enc v ++ (enc (std.slen t : Int) ++ (std.sbytes t ++ (g32 h ++ enc w)))).take cn := by rw [part_take (by omega), List.drop_zero, hL]
  refine ⟨⟨0, _, _⟩, rfl, ⟨by dsimp only; omega, by dsimp only; omega⟩, fun hok r hr => ?_, fun hok r _ => ⟨⟨_, _, _⟩, rfl, trivial, fun _ => by trivial⟩⟩
  dsimp only at hok
  rw [Q0] at hok
  have hc1 := num_take_ok hok
  obtain ⟨v1, v2, v3⟩ := num_take_val ⟨hn.1, hn.2⟩ (R := enc (std.slen t : Int) ++ (std.sbytes t ++ (g32 h ++ enc w))) hc1
  obtain ⟨u, o, j⟩ := r
  dsimp only at hr
  rw [Q0, v2, v3, Nat.zero_add] at hr
  obtain ⟨rfl, rfl, rfl⟩ := hr
  dsimp only
  have Q1 : ((rx.take cn).drop (enc u).length).take (cn - (enc u).length) = (enc (std.slen t : Int) ++ (std.sbytes t ++ (g32 h ++ enc w))).take (cn - (enc u).length) := by rw [part_take (by omega), D1]
  refine ⟨⟨_, _, _⟩, rfl, ⟨by dsimp only; omega, by dsimp only; omega⟩, fun hok r hr => ?_, fun hok r _ => ⟨⟨_, _, _⟩, rfl, trivial, fun _ => ⟨fun _ => by trivial, fun _ => ⟨fun _ => by trivial, fun q => absurd q (by simp)⟩⟩⟩⟩
  dsimp only at hok
  rw [Q1] at hok
  have hc2 := num_take_ok hok
  obtain ⟨v4, v5, v6⟩ := num_take_val hst (R := std.sbytes t ++ (g32 h ++ enc w)) hc2
  rw [hk] at v6 hc2
  obtain ⟨y, o, j⟩ := r
  dsimp only at hr
  rw [Q1, v5, v6] at hr
  obtain ⟨rfl, rfl, rfl⟩ := hr
  dsimp only
  refine ⟨fun _ => ⟨⟨_, _, _⟩, rfl, trivial, fun _ => ⟨fun _ => by trivial, fun _ => ⟨fun _ => by trivial, fun q => absurd q (by simp)⟩⟩⟩, fun q => ?_⟩
  have q := of_decide_eq_false q
  have y1 : std.seq (std.sof (List.take ((std.slen t : Int).toNat - 0) (List.drop ((enc u).length + K + 0 * 1) (rx.take cn)))) t = true := by
    show std.seq (std.sof (List.take (std.slen t) (List.drop ((enc u).length + K) (rx.take cn)))) t = true
    rw [part_take (by omega)]; exact hsq
  refine ⟨⟨⟨by omega, by omega⟩, trivial⟩, ⟨trivial, by omega, by omega⟩, by omega, ⟨_, _, _⟩, rfl, trivial, fun q2 => ?_, fun q2 => ?_⟩
  · dsimp only at q2 ⊢
    rw [P3]
    have y2 : std.leq (g32 (List.take 32 (List.drop ((enc u).length + K + std.slen t) (rx.take cn)))) (g32 h) = true := by
      rw [part_take (by omega)]; exact hlq
    refine ⟨by omega, ⟨_, _, _⟩, rfl, ⟨by dsimp only; omega, by dsimp only; omega⟩, fun hok => ?_, fun hok _ _ => ?_⟩
    · exfalso
      dsimp only at hok
      rw [part_take (by omega), D4] at hok
      have := num_take_ok hok
      omega
    · generalize std.sof (List.take ((std.slen t : Int).toNat - 0) (List.drop ((enc u).length + K + 0 * 1) (rx.take cn))) = A at y1 ⊢
      generalize g32 (List.take 32 (List.drop ((enc u).length + K + std.slen t) (rx.take cn))) = B at y2 ⊢
      repeat' first
        | exact trivial
        | exact rfl
        | (refine And.intro ?_ ?_)
        | (intro q)
      all_goals first
        | (exfalso; rw [y2] at q; cases q; done)
        | (exfalso; rw [y1] at q; cases q; done)
        | (exfalso; simp at q; done)
  · dsimp only at q2 ⊢
    generalize std.sof (List.take ((std.slen t : Int).toNat - 0) (List.drop ((enc u).length + K + 0 * 1) (rx.take cn))) = A at y1 ⊢
    repeat' first
      | exact trivial
      | exact rfl
      | (refine And.intro ?_ ?_)
      | (intro q)
    all_goals first
      | (exfalso; rw [y1] at q; cases q; done)
      | (exfalso; simp at q; done)
theorem vintBack_run (a0 : Int) (_ : -9223372036854775808 ≤ a0 ∧ a0 ≤ 9223372036854775807) (a1 : Int) (_ : -9223372036854775808 ≤ a1 ∧ a1 ≤ 9223372036854775807) (a2 : ByteArray) (_ : a2.size ≤ maxLen) (a3 : List Int) (_ : a3.length = 32) (_ : ∀ x ∈ a3, 0 ≤ x ∧ x < 256) (a4 : Int) (_ : -9223372036854775808 ≤ a4 ∧ a4 ≤ 9223372036854775807) :
    lawV std Try.prog (backCons std enc okN valN advN [36, 44]) (inCallF 60) 90 (fun _ => none) Try.f8 (bodyS Try.prog 8) [mk (.int .i64 a0), mk (.int .i64 a1), mk (.string a2), hashA std a3, mk (.int .i64 a4)] (inH []) (fun v _ => v = .bool true) := back_run a0 a1 a2 a3 a4
theorem hash_vr {μ : Mu} {l : List Int} (hl : l.length = 32) : VR μ (hashA std l) (.agg (l.map (Value.int .u8)).toArray) := hash_vr_gen hl
theorem vintBack_body : Try.f8.body = some (bodyS Try.prog 8) := by kernel_rfl
set_option maxRecDepth 100000 in
theorem vintBack_calls (w : World) (a0 : Int) (h0 : -9223372036854775808 ≤ a0 ∧ a0 ≤ 9223372036854775807) (a1 : Int) (h1 : -9223372036854775808 ≤ a1 ∧ a1 ≤ 9223372036854775807) (a2 : ByteArray) (h2 : a2.size ≤ maxLen) (a3 : List Int) (l3 : a3.length = 32) (h3 : ∀ x ∈ a3, 0 ≤ x ∧ x < 256) (a4 : Int) (h4 : -9223372036854775808 ≤ a4 ∧ a4 ≤ 9223372036854775807) :
    Calls Try.prog 8 #[(.int .i64 a0), (.int .i64 a1), (.string a2), (.agg (a3.map (Value.int .u8)).toArray), (.int .i64 a4)] w fun e w' => Below w.heap.size w w' ∧ e = .returned (.bool true) := by
  exact law_in Try.progOk (backCons_ok [36, 44]) (inCallF_ok 60) Try.func8 vintBack_body (n := 90) []
    (by intro x hx; cases hx) (vintBack_run a0 h0 a1 h1 a2 h2 a3 l3 h3 a4 h4) (All2.cons (.zero (.mark (.plain rfl) rfl)) (All2.cons (.zero (.mark (.plain rfl) rfl)) (All2.cons (.zero (.mark (.plain rfl) rfl)) (All2.cons (hash_vr l3) (All2.cons (.zero (.mark (.plain rfl) rfl)) All2.nil)))))
set_option maxRecDepth 100000 in
theorem vintBack_lifted (os : Os) (started : os.Started) (H : Type) (enc : TypeId × Value → H) :
    ReturnsInHanded {} Try.checked os 8 .any (Rows.vintBackSpec.pre6 enc Try.prog Try.f8 Rows.vintBackRow.domain false) (Rows.vintBackSpec.post enc Try.prog Try.f8 false true false false) := by
  refine returnsInHanded_of_change (C := Try.checked) Try.own started (by kernel_rfl) Try.func8
    (ChangeSpec.witness6 (enc := enc) (C := Try.checked) false ⟨#[], #[.int .i64 0, .int .i64 0, .string ⟨#[]⟩, .agg (Array.replicate 32 (.int .u8 0)), .int .i64 0], []⟩ 40 (by kernel_rfl) (by kernel_rfl) (by kernel_rfl) (by kernel_rfl)) ?_
  intro W base args ds gs before hval0 hW hcnd _
  have hval : ∀ (j : Nat) t v, Try.f8.params[j]? = some t → args[j]? = some v → Value.okWide Try.prog W .any base t v := hval0
  have hW' := hW
  obtain ⟨p, q, hA0, hV, rfl, hfz, hnd⟩ := hW
  have hA : DataW.TrodAll enc Try.prog W 0 (fun _ => true) true Try.f8.params.toList args.toList ds p := hA0
  rw [Try.params8] at hA hval
  have hAk := hA
  obtain ⟨v0, v1, v2, v3, v4, d0, d1, d2, d3, d4, p0, p1, p2, p3, p4, rfl, rfl, rfl, h0, h1, h2, h3, h4⟩ := trodAll_five' hA
  obtain ⟨rfl, rfl⟩ := trodVars_none hV
  obtain ⟨a0, rfl, rfl, rfl, wa0⟩ := open_int Try.underlying3 (hval 0 3 v0 rfl rfl) h0
  obtain ⟨a1, rfl, rfl, rfl, wa1⟩ := open_int Try.underlying3 (hval 1 3 v1 rfl rfl) h1
  obtain ⟨a2, rfl, rfl, rfl, wa2⟩ := open_string Try.underlying9 (hval 2 9 v2 rfl rfl) h2
  obtain ⟨a3, rfl, rfl, la3, wa3⟩ := open_hash Try.underlying35 Try.underlying5 ⟨by kernel_rfl, by kernel_rfl⟩ (hval 3 35 v3 rfl rfl) h3
  obtain ⟨a4, rfl, rfl, rfl, wa4⟩ := open_int Try.underlying3 (hval 4 3 v4 rfl rfl) h4
  clear hA0 hval0
  have hlt : ∀ x ∈ [] ++ [] ++ [] ++ [] ++ [] ++ ([] : List MemPlace), x.block < W.heap.size := fun x hx => by simp at hx
  refine (vintBack_calls W a0 (i64_range wa0) a1 (i64_range wa1) a2 wa2 a3 la3 wa3 a4 (i64_range wa4)).mono fun e W' ⟨hb, he⟩ => ?_
  subst he
  exact ⟨_, rfl, post_below (pa := [] ++ [] ++ [] ++ [] ++ [] ++ []) (pv := []) hW' (fun _ _ _ => trodAll_mk1 (shut_bool Try.underlying4 true)) (fun sp _ => trodAll_stays (by kernel_rfl) hb (by decide +kernel) hAk hlt (fun x hx => by simp at hx)) (fun _ _ => rfl) (by simp) hb (ok_one (by kernel_rfl) rfl (okWide_bool_mk Try.underlying4 true))⟩

theorem vintBack_holds : Rows.VintBackSaid :=
  OpenClaim.holds_of_wide 8 Try.f8 rfl rfl rfl rfl rfl rfl rfl ⟨rfl, rfl, rfl, rfl, rfl⟩ rfl rfl rfl rfl rfl (by kernel_rfl) Try.func8 (by kernel_rfl)
    (of_decide_eq_true (by kernel_rfl)) (by unfold Func.isWrapper; first | (rw [if_pos (by decide +kernel)]; kernel_rfl) | (rw [if_neg (by decide +kernel)]; exact ⟨rfl, rfl⟩))
    (fun os started H enc _ => vintBack_lifted os started H enc)
end Go.Proofs.Ytgegjbapgccbaaa
