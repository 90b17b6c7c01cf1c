/-
  StakeOthers: other pairs don't count and stay; the order of unlike names; an odd record makes no backing.
-/
import Derived.Test.YtecdmdglkkeidaaSo2
import Derived.Test.YtecdmdglkkeidaaFw5
import Derived.Test.YtecdmdglkkeidaaRows
import Derived.ChangeMaps5
section
namespace Go.Proofs.Ytecdmdglkkeidaa
open Go Go.Abs Go.RowKit Go.ChangeShapes Go.WideShapes Go.ChangeAt Go.ChangeMaps
theorem pairs_len (xs : List Value) : (pairsF xs).length ≤ 12 := outL_len (esF xs (min xs.length 12)) 12
theorem keyF_len (c : Int) : lenB (keyF c) ≤ 14 := by
  unfold keyF
  have h : ∀ j, j < 12 → lenB (eS keysV j) ≤ 14 := by decide +kernel
  exact h _ (by omega)
noncomputable def soK (xs : List Value) (a b : Int) : SoK :=
  let l := othF (pairsF xs) (pairsF xs).length
  let x := kvF.wi a 0 1000
  let y := kvF.wi b 0 1000
  { l := l, x := x, y := y, e := stF.ster 1 l nmA x 0, nl := stF.stk 1 (stF.stk 1 l nmA x 0) nmB' y 0, f := stF.ster 1 (stF.stk 1 l nmA x 0) nmB' y 0, gg := stF.ster 1 l nmB' y 0, v := stF.stk 1 (stF.stk 1 l nmB' y 0) nmA x 0, h := stF.ster 1 (stF.stk 1 l nmB' y 0) nmA x 0, k := stF.bck (stF.stk 1 (stF.stk 1 l nmA x 0) nmB' y 0), ok := true, no := false }
def soI (xs : List Value) (d : SoA) : Prop := d.n = ((pairsF xs).length : Int) ∧ ∃ i : Nat, d.i = i ∧ i ≤ (pairsF xs).length ∧ d.r = othF (pairsF xs) i
def soJ (K : SoK) (d : SoB) : Prop := d.n = (K.l.length : Int) ∧ ∃ i : Nat, d.i = i ∧ i ≤ K.l.length
structure SoAll (K : SoK) (d : SoA) : Prop where
  l : d.r = K.l
  x0 : 0 ≤ K.x ∧ K.x ≤ 1000
  y0 : 0 ≤ K.y ∧ K.y ≤ 1000
  e : K.e = 0
  f : K.f = 0
  gg : K.gg = 0
  h : K.h = 0
  same : K.nl = K.v
  k : K.k = K.x + K.y
  ok : K.ok = true
  no : K.no = false
  len : K.nl.length = K.l.length + 2
  l12 : K.l.length ≤ 12
  wf : Wf K.l
  nR : RightL K.nl
  mem : ∀ z ∈ K.l, z ∈ K.nl
theorem so_l3 {a b : Int} {K : SoK} {d : SoA} (A : SoAll K d) (hK : ∀ n i : Int, [(Filler.dl K.l), .val (.int .i64 K.x), .val (.int .i64 K.y), .val (.int .i64 K.e), .dl K.nl, .val (.int .i64 K.f), .val (.int .i64 K.gg), .dl K.v, .val (.int .i64 K.h), .val (.int .i64 K.k), .val (.bool K.ok), .val (.bool K.no), .dl K.l, .val (.int .i64 n), .val (.int .i64 i)] =
    [(Filler.dl d.r), .val (.int .i64 (kvF.wi a 0 1000)), .val (.int .i64 (kvF.wi b 0 1000)), .val (.int .i64 (stF.ster 1 d.r nmA (kvF.wi a 0 1000) 0)), .dl (stF.stk 1 (stF.stk 1 d.r nmA (kvF.wi a 0 1000) 0) nmB' (kvF.wi b 0 1000) 0), .val (.int .i64 (stF.ster 1 (stF.stk 1 d.r nmA (kvF.wi a 0 1000) 0) nmB' (kvF.wi b 0 1000) 0)), .val (.int .i64 (stF.ster 1 d.r nmB' (kvF.wi b 0 1000) 0)), .dl (stF.stk 1 (stF.stk 1 d.r nmB' (kvF.wi b 0 1000) 0) nmA (kvF.wi a 0 1000) 0), .val (.int .i64 (stF.ster 1 (stF.stk 1 d.r nmB' (kvF.wi b 0 1000) 0) nmA (kvF.wi a 0 1000) 0)), .val (.int .i64 (stF.bck (stF.stk 1 (stF.stk 1 d.r nmA (kvF.wi a 0 1000) 0) nmB' (kvF.wi b 0 1000) 0))), .val (.bool true), .val (.bool false), .dl d.r, .val (.int .i64 n), .val (.int .i64 i)]) :
    so_vc_L3 kvF stF a b K (soJ K) (fun d => (d.n - d.i).toNat) d := by
  obtain ⟨r, n, i⟩ := d
  obtain ⟨hl, x0, y0, e, f, gg, h, same, k, ok, no, len, l12, wf, nR, mem⟩ := A
  dsimp only at hl hK
  subst hl
  unfold so_vc_L3
  have ne : ∀ {z w : Int}, z = w → (z == w) = false → [Value.bool false] = [Value.bool true] := fun h h2 => by rw [h] at h2; simp at h2
  have nb : ∀ {b : Bool} {P : Prop}, b = true → b = false → P := fun h1 h2 => by rw [h1] at h2; cases h2
  have nl := (right_vals nR).1
  refine ⟨{ n := ((List.length K.l) : Int), i := (0 : Int) }, hK _ _, ⟨rfl, 0, rfl, Nat.zero_le _⟩, fun ⟨n, i⟩ => fun ⟨hn, i, hi, hle⟩ => ?_⟩
  dsimp only at hn hi
  subst hn hi
  dsimp only
  refine ⟨fun h2 => ?_, fun h7 => ⟨fun h8 => ⟨fun h9 => ⟨fun h10 => ⟨fun h11 => ⟨by omega, ⟨fun h12 => ⟨by omega, ⟨fun h13 => ⟨fun h14 => ⟨fun h15 => nb h15 no, fun h16 => ⟨by omega, ⟨fun h17 => rfl, ne (by omega)⟩⟩⟩, fun h19 => nb ok h19⟩, ne k⟩⟩, fun h21 => ?_⟩⟩, ne h⟩, ne gg⟩, ne f⟩, ne e⟩⟩
  · have h2 := of_decide_eq_true h2
    have hi : i < K.l.length := by omega
    rw [Int.toNat_natCast, kP_get hi, vP_get hi]
    have hx := wf _ (List.getElem_mem hi)
    obtain ⟨g1, g2⟩ := get_mem nR (k := keyV K.l[i]) (v := valV K.l[i]) (by rw [← hx]; exact mem _ (List.getElem_mem hi))
    refine ⟨by omega, ⟨by omega, ⟨fun h3 => ⟨fun h4 => ?_, fun h5 => ⟨by omega, ⟨{ n := (K.l.length : Int), i := ((i : Int) + (1 : Int)) }, rfl, ?_, ?_⟩⟩⟩, fun h6 => ?_⟩⟩⟩
    · have h4 : (!eqB (getF K.nl (keyV K.l[i])) (valV K.l[i])) = true := h4
      rw [g2] at h4
      rw [eqB_iff.2 rfl] at h4; cases h4
    · show ((K.l.length : Int) - ((i : Int) + 1)).toNat + 1 ≤ ((K.l.length : Int) - (i : Int)).toNat
      omega
    · exact ⟨rfl, i + 1, by show (i : Int) + 1 = _; omega, by omega⟩
    · have h6 : fdF K.nl (keyV K.l[i]) = false := h6
      rw [g1] at h6; cases h6
  · have h21 : sameF K.nl K.v = false := h21
    rw [same, same_self] at h21; cases h21
theorem so_run (xs : List Value) (a b c : Int) (hx : IntsOk xs) (ha : -9223372036854775808 ≤ a ∧ a ≤ 9223372036854775807) (hb : -9223372036854775808 ≤ b ∧ b ≤ 9223372036854775807) (hc : -9223372036854775808 ≤ c ∧ c ≤ 9223372036854775807) : Holds (runP std (soCon std kvF stF) 90 (soLs (pairsF xs) a b c (soK xs a b) (soI xs) (fun d => (d.n - d.i).toNat) (soJ (soK xs a b)) (fun d => (d.n - d.i).toNat)) soP 7 Try.f7 (xs, a, b, c, ())) := by
  constructor
  have vc := so_vc kvF stF xs a b c (soK xs a b) (soI xs) (fun d => (d.n - d.i).toNat) (soJ (soK xs a b)) (fun d => (d.n - d.i).toNat)
  refine vc.mpr ⟨hx, ?_⟩
  have hp := pairs_right xs
  have hp12 := pairs_len xs
  unfold so_vc_L5
  show ∃ d13 : SoA, _ ∧ soI xs d13 ∧ _
  have hps : kvF.pairs xs = pairsF xs := rfl
  have hPi : ∀ i : Nat, i < (pairsF xs).length → isF (kP (pairsF xs) i) = (decide ((2 : Int) ≤ (lenB (kP (pairsF xs) i) : Int)) && eqB (std.ssub (kP (pairsF xs) i) 0 2) sB) := fun i _ => rfl
  have hstep : ∀ i : Nat, othF (pairsF xs) (i + 1) = if isF (kP (pairsF xs) i) then othF (pairsF xs) i else othF (pairsF xs) i ++ [prV (kP (pairsF xs) i) (vP (pairsF xs) i)] := fun i => rfl
  have hlen : ∀ i, i ≤ (pairsF xs).length → (othF (pairsF xs) i).length ≤ 12 := fun i hi => by
    rw [oth_filter hp.2 i hi]
    refine Nat.le_trans (List.length_filter_le _ _) ?_
    rw [List.length_take]; omega
  have nxt : ∀ (i : Nat) (r : List Value), i < (pairsF xs).length → r = othF (pairsF xs) (i + 1) → soI xs { r := r, n := ((pairsF xs).length : Int), i := (i : Int) + 1 } := fun i r hi hr => ⟨rfl, i + 1, by show (i : Int) + 1 = _; omega, hi, hr⟩
  have ms : ∀ (i : Nat), i < (pairsF xs).length → Nat.le (Nat.succ (((pairsF xs).length : Int) - ((i : Int) + 1)).toNat) (((pairsF xs).length : Int) - (i : Int)).toNat := fun i hi => by
    show (((pairsF xs).length : Int) - ((i : Int) + 1)).toNat + 1 ≤ (((pairsF xs).length : Int) - (i : Int)).toNat
    omega
  refine ⟨{ r := [], n := ((List.length (pairsF xs)) : Int), i := (0 : Int) }, rfl, ⟨rfl, 0, rfl, Nat.zero_le _, rfl⟩, fun ⟨r, n, i⟩ ⟨hn, i, hi, hle, hr⟩ => ?_⟩
  dsimp only at hn hi hr
  subst hn hi hr
  rw [hps]
  dsimp only
  refine ⟨fun h2 => ?_, fun h7 => ?_⟩
  · have h2 := of_decide_eq_true h2
    have hi : i < (pairsF xs).length := by omega
    have hl := hlen i hle
    rw [Int.toNat_natCast]
    have go2 : isF (kP (pairsF xs) i) = false → othF (pairsF xs) i ++ [prV (kP (pairsF xs) i) (vP (pairsF xs) i)] = othF (pairsF xs) (i + 1) := fun h => by rw [hstep, h]; rfl
    have hl2 : (othF (pairsF xs) i ++ [prV (kP (pairsF xs) i) (vP (pairsF xs) i)]).length * 32 ≤ 140737488355328 := by
      rw [List.length_append]
      show ((othF (pairsF xs) i).length + 1) * 32 ≤ _
      omega
    refine ⟨by omega, ⟨fun h3 => ⟨⟨⟨by omega, of_decide_eq_true h3⟩, trivial⟩, ⟨fun h4 => ⟨by omega, ⟨{ r := othF (pairsF xs) i, n := ((pairsF xs).length : Int), i := ((i : Int) + (1 : Int)) }, rfl, ms i hi, nxt i _ hi ?_⟩⟩, fun h5 => ⟨hl2, ⟨by omega, ⟨{ r := othF (pairsF xs) i ++ [prV (kP (pairsF xs) i) (vP (pairsF xs) i)], n := ((pairsF xs).length : Int), i := ((i : Int) + (1 : Int)) }, rfl, ms i hi, nxt i _ hi (go2 ?_)⟩⟩⟩⟩⟩, fun h6 => ⟨hl2, ⟨by omega, ⟨{ r := othF (pairsF xs) i ++ [prV (kP (pairsF xs) i) (vP (pairsF xs) i)], n := ((pairsF xs).length : Int), i := ((i : Int) + (1 : Int)) }, rfl, ms i hi, nxt i _ hi (go2 ?_)⟩⟩⟩⟩⟩
    · have h4 : eqB (std.ssub (kP (pairsF xs) i) 0 2) sB = true := h4
      have h3 : decide ((2 : Int) ≤ (lenB (kP (pairsF xs) i) : Int)) = true := h3
      rw [hstep, hPi i hi, h4, h3]; rfl
    · have h5 : eqB (std.ssub (kP (pairsF xs) i) 0 2) sB = false := h5
      rw [hPi i hi, h5]; simp
    · have h6 : decide ((2 : Int) ≤ (lenB (kP (pairsF xs) i) : Int)) = false := h6
      rw [hPi i hi, h6]; rfl
  · have h7 := of_decide_eq_false h7
    have hi : i = (pairsF xs).length := by omega
    subst hi
    have hl := hlen _ (Nat.le_refl _)
    have hlR : RightL (othF (pairsF xs) (pairsF xs).length) := by
      rw [oth_filter hp.2 _ (Nat.le_refl _), List.take_length]
      exact right_filter _ hp
    have hnl : ∀ z ∈ othF (pairsF xs) (pairsF xs).length, isF (keyV z) = false := fun z hz => by
      rw [oth_filter hp.2 _ (Nat.le_refl _)] at hz
      have := (List.mem_filter.1 hz).2
      simpa using this
    have hX : 0 ≤ kvF.wi a 0 1000 ∧ kvF.wi a 0 1000 ≤ 1000 := wi_in2 (by omega)
    have hY : 0 ≤ kvF.wi b 0 1000 ∧ kvF.wi b 0 1000 ≤ 1000 := wi_in2 (by omega)
    have hcl := keyF_len c
    have F := so_facts (c := keyF c) hlR hl hnl hX hY hcl
    have A : SoAll (soK xs a b) { r := othF (pairsF xs) (pairsF xs).length, n := ((pairsF xs).length : Int), i := ((pairsF xs).length : Int) } :=
      { l := rfl, x0 := hX, y0 := hY, e := F.m0, f := F.n0, gg := F.u0, h := F.v0, same := F.nv, k := F.bck, ok := rfl, no := rfl, len := F.len, l12 := hl, wf := hlR.2, nR := F.nR, mem := F.mem }
    have L3 := so_l3 (a := a) (b := b) A fun n i => rfl
    have nn := right_vals F.nR
    have oo := right_vals F.oddR
    have amt : ∀ z : Int, 0 ≤ z ∧ z ≤ 1000 → (-9223372036854775808 ≤ z ∧ z ≤ 9223372036854775807) ∧ (-9223372036854775808 ≤ (0 : Int) ∧ (0 : Int) ≤ 9223372036854775807) := fun z hz => ⟨by omega, by omega⟩
    have ws : ∀ z : Int, (-9223372036854775808 ≤ z ∧ z ≤ 9223372036854775807) → (-9223372036854775808 ≤ z ∧ z ≤ 9223372036854775807) ∧ ((-1000000000000 : Int) ≤ 0 ∧ (0 : Int) ≤ 1000 ∧ (1000 : Int) ≤ 2000000000000) := fun z hz => ⟨hz, by omega, by omega, by omega⟩
    have n1 : std.slen (⟨#[97]⟩ : ByteArray) ≤ 1000000 := by decide
    have n2 : std.slen (⟨#[98]⟩ : ByteArray) ≤ 1000000 := by decide
    have sl : std.slen (⟨#[115, 47]⟩ : ByteArray) + std.slen (kvF.key c) ≤ 9223372036854775807 := by
      show 2 + lenB (keyF c) ≤ _; omega
    have vn : (stkF 1 (stkF 1 (othF (pairsF xs) (pairsF xs).length) nmA (kvF.wi a 0 1000) 0).1 nmB' (kvF.wi b 0 1000) 0).1.length ≤ 1000000 ∧ ∀ i17 : Nat, i17 < (stkF 1 (stkF 1 (othF (pairsF xs) (pairsF xs).length) nmA (kvF.wi a 0 1000) 0).1 nmB' (kvF.wi b 0 1000) 0).1.length → lenB (vP (stkF 1 (stkF 1 (othF (pairsF xs) (pairsF xs).length) nmA (kvF.wi a 0 1000) 0).1 nmB' (kvF.wi b 0 1000) 0).1 i17) ≤ 4000000 := ⟨by omega, fun i hi => by have := nn.2 i hi; omega⟩
    have vo : (setF (stkF 1 (stkF 1 (othF (pairsF xs) (pairsF xs).length) nmA (kvF.wi a 0 1000) 0).1 nmB' (kvF.wi b 0 1000) 0).1 (keyS (keyF c)) qB).length ≤ 1000000 ∧ ∀ i17 : Nat, i17 < (setF (stkF 1 (stkF 1 (othF (pairsF xs) (pairsF xs).length) nmA (kvF.wi a 0 1000) 0).1 nmB' (kvF.wi b 0 1000) 0).1 (keyS (keyF c)) qB).length → lenB (vP (setF (stkF 1 (stkF 1 (othF (pairsF xs) (pairsF xs).length) nmA (kvF.wi a 0 1000) 0).1 nmB' (kvF.wi b 0 1000) 0).1 (keyS (keyF c)) qB) i17) ≤ 4000000 := ⟨by omega, fun i hi => by have := oo.2 i hi; omega⟩
    have bk := F.bok
    have od := F.odd
    have no1 : ∀ {b : Bool} {P : Prop}, b = true → b = false → P := fun h1 h2 => by rw [h1] at h2; cases h2
    refine ⟨ws a ha, ⟨ws b hb, ⟨⟨hlR, n1, amt _ hX⟩, ⟨⟨F.mR, n2, amt _ hY⟩, ⟨⟨hlR, n2, amt _ hY⟩, ⟨⟨F.uR, n1, amt _ hX⟩, ⟨vn, ⟨fun h9 => ⟨hc, ⟨sl, ⟨vn.1, ⟨fun h10 => ⟨vo, ⟨fun h12 => no1 h12 od, fun h13 => L3⟩⟩, fun h14 => ⟨vo, ⟨fun h16 => no1 h16 od, fun h17 => L3⟩⟩⟩⟩⟩⟩, fun h18 => no1 bk h18⟩⟩⟩⟩⟩⟩⟩⟩
theorem stRuns_closed : (callN vbeq Try.prog X0 1000 3 [] H0).map (·.1) = some (.bool true) := by rw [callF_eq]; kernel_rfl
theorem soCon_ok : ConOk Try.prog (soCon std kvF stF) := conL_ok fun x hx => by
  simp only [List.mem_cons, List.not_mem_nil, or_false] at hx
  rcases hx with rfl | rfl | rfl | rfl | rfl | rfl | rfl | rfl | rfl
  · exact pcon_ok pairs_ok
  · exact pcon_ok wi_ok
  · exact pcon_ok key_ok
  · exact pcon_ok delg_ok
  · exact pcon_ok bck_ok
  · exact pcon_ok set_ok
  · exact pcon_ok get_ok
  · exact pcon_ok same_ok
  · exact closedC_ok (knownOk_none _) Try.func3 (show _ = some (bodyS Try.prog 3) by kernel_rfl) rfl stRuns_closed
noncomputable def soQ : PF := pf (.cons cIs (.cons cI64 (.cons cI64 (.cons cI64 .nil)))) (fun d => IntsOk d.1 ∧ (-9223372036854775808 ≤ d.2.1 ∧ d.2.1 ≤ 9223372036854775807) ∧ (-9223372036854775808 ≤ d.2.2.1 ∧ d.2.2.1 ≤ 9223372036854775807) ∧ (-9223372036854775808 ≤ d.2.2.2.1 ∧ d.2.2.2.1 ≤ 9223372036854775807)) [.bool false] fun _ => [.bool true]
theorem so_ok : PFOk Try.prog 7 soQ :=
  pf_ok (LS := fun d => soLs (pairsF d.1) d.2.1 d.2.2.1 d.2.2.2.1 (soK d.1 d.2.1 d.2.2.1) (soI d.1) (fun d => (d.n - d.i).toNat) (soJ (soK d.1 d.2.1 d.2.2.1)) (fun d => (d.n - d.i).toNat)) Try.progOk soCon_ok (inCallF_ok 60) soQ Try.func7 (show _ = some (bodyS Try.prog 7) by kernel_rfl) fun d hd => by
    obtain ⟨xs, a, b, c, u⟩ := d
    obtain ⟨h⟩ := so_run xs a b c hd.1 hd.2.1 hd.2.2.1 hd.2.2.2
    exact h
theorem stakeOthers_calls (w : World) (v0 : Value) (h0 : SlIn w zI v0) (a : Int) (ha : inR a) (b : Int) (hb : inR b) (c : Int) (hc : inR c) : Calls Try.prog 7 #[v0, .int .i64 a, .int .i64 b, .int .i64 c] w fun e w' => Below w.heap.size w w' ∧ e = .returned (.bool true) := by
  obtain ⟨l0, _, i0, d0⟩ := h0
  exact law_pf Try.progOk Try.func7 (show _ = some (bodyS Try.prog 7) by kernel_rfl) so_ok rfl (d := (l0, a, b, c, ())) ⟨sl_ints i0, ha, hb, hc⟩ rfl (xs := [dsl zI l0, .int .i64 a, .int .i64 b, .int .i64 c]) (by kernel_rfl) (All2.cons d0 (All2.cons (.inl ⟨rfl, .plain rfl⟩) (All2.cons (.inl ⟨rfl, .plain rfl⟩) (All2.cons (.inl ⟨rfl, .plain rfl⟩) All2.nil))))
set_option maxRecDepth 100000 in
theorem stakeOthers_lifted (os : Os) (started : os.Started) (H : Type) (enc : TypeId × Value → H) :
    ReturnsInHanded {} Try.checked os 7 .any (Rows.stakeOthersSpec.pre6 enc Try.prog Try.f7 Rows.stakeOthersRow.domain false) (Rows.stakeOthersSpec.post enc Try.prog Try.f7 false true false false) := by
  refine returnsInHanded_of_change (C := Try.checked) Try.own started (by kernel_rfl) Try.func7
    (ChangeSpec.witness6 (enc := enc) (C := Try.checked) false ⟨#[], #[.slice none 0 0, .int .i64 0, .int .i64 0, .int .i64 0], []⟩ 40 (by kernel_rfl) (by kernel_rfl) (by kernel_rfl) (by kernel_rfl)) ?_
  intro W base args ds gs before hval0 hW hcnd _
  have hval : ∀ (j : Nat) t v, Try.f7.params[j]? = some t → args[j]? = some v → Value.okWide Try.prog W .any base t v := hval0
  have hW' := hW
  obtain ⟨p, q, hA0, hV, rfl, hfz, hnd⟩ := hW
  have hA : DataW.TrodAll enc Try.prog W 0 (fun _ => true) true Try.f7.params.toList args.toList ds p := hA0
  rw [Try.params7] at hA hval
  have hAk := hA
  obtain ⟨v0, v1, v2, v3, d0, d1, d2, d3, p0, p1, p2, p3, rfl, rfl, rfl, h0, h1, h2, h3⟩ := trodAll_four' hA
  obtain ⟨rfl, rfl⟩ := trodVars_none hV
  have in0 : SlIn W zI v0 := arg_slice (n := 8) (by kernel_rfl) (by decide +kernel) Try.underlying33 (by kernel_rfl) (hval 0 33 v0 rfl rfl) h0
  obtain ⟨a1, rfl, rfl, rfl, wa1⟩ := open_int Try.underlying3 (hval 1 3 v1 rfl rfl) h1
  obtain ⟨a2, rfl, rfl, rfl, wa2⟩ := open_int Try.underlying3 (hval 2 3 v2 rfl rfl) h2
  obtain ⟨a3, rfl, rfl, rfl, wa3⟩ := open_int Try.underlying3 (hval 3 3 v3 rfl rfl) h3
  clear hA0 hval0
  have hlt : ∀ x ∈ p0 ++ [] ++ [] ++ [] ++ ([] : List MemPlace), x.block < W.heap.size := fun x hx => hW'.lt x (by simpa using hx)
  refine (stakeOthers_calls W v0 in0 a1 (i64_range wa1) a2 (i64_range wa2) a3 (i64_range wa3)).mono fun e W' ⟨hb, he⟩ => ?_
  subst he
  exact ⟨_, rfl, post_below (pa := p0 ++ [] ++ [] ++ [] ++ []) (pv := []) hW' (fun _ _ _ => trodAll_mk1 (shut_bool Try.underlying4 true)) (fun sp hsp => trodAll_stays (by kernel_rfl) hb (by decide +kernel) hAk hlt (fun x hx => hsp x (by simpa using hx))) (fun _ _ => rfl) (by simp) hb (ok_one (by kernel_rfl) rfl (okWide_bool_mk Try.underlying4 true))⟩

theorem stakeOthers_holds : Rows.StakeOthersSaid :=
  OpenClaim.holds_of_wide 7 Try.f7 rfl rfl rfl rfl rfl rfl rfl ⟨rfl, rfl, rfl, rfl, rfl⟩ rfl rfl rfl rfl rfl (by kernel_rfl) Try.func7 (by kernel_rfl)
    (of_decide_eq_true (by kernel_rfl)) (by unfold Func.isWrapper; first | (rw [if_pos (by decide +kernel)]; kernel_rfl) | (rw [if_neg (by decide +kernel)]; exact ⟨rfl, rfl⟩))
    (fun os started H enc _ => stakeOthers_lifted os started H enc)
end Go.Proofs.Ytecdmdglkkeidaa
end
