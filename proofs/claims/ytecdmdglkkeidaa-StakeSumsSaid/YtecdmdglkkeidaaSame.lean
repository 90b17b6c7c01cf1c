/-
  ARE TWO ROWS OF PAIRS THE SAME: a contract for calls inside regions whose order is open, of rows of which it is asked that they are.
-/
import Derived.Test.YtecdmdglkkeidaaSameV
import Derived.Test.YtecdmdglkkeidaaSumV
namespace Go.Proofs.Ytecdmdglkkeidaa
open Go.ChangeShapes Go.WideShapes Go.ChangeAt Go.RowKit Go.Abs

theorem mini_slice {μ : Mu} {b o n k : Nat} {v : Value} (r : VR μ (.slice (some ⟨b, o, none⟩) n k) v) {p0 : Pl} (hp : μ b = some p0) {j : Nat} {μ' : Mu} (hμ : μ' j = some ⟨p0.c, o + p0.s, p0.N⟩) : VR μ' (.slice (some ⟨j, 0, none⟩) n k) v := by
  rcases r.inv_slice with ⟨p, k', h1, rfl, h2, h3⟩ | ⟨rfl, h2, a', ⟨p, h1⟩, rfl⟩
  · rw [hp] at h1; cases h1
    have h4 : VR0 μ' (.slice (some ⟨j, 0, none⟩) n k) (.slice (some ⟨p0.c, 0 + (o + p0.s), none⟩) n k') := VR0.slice (p := ⟨p0.c, o + p0.s, p0.N⟩) hμ h2 (by
      rcases h3 with ⟨a, b⟩ | c
      · exact .inl ⟨a, by show 0 + (o + p0.s) + k' * (k - UNK0) ≤ p0.N; omega⟩
      · exact .inr c)
    rw [Nat.zero_add] at h4
    exact .zero h4
  · exact .zero (VR0.slice0 hμ h2)
theorem slice_pl {μ : Mu} {b o n k : Nat} {v : Value} (r : VR μ (.slice (some ⟨b, o, none⟩) n k) v) : ∃ p0, μ b = some p0 := by
  rcases r.inv_slice with ⟨p, k', h1, _⟩ | ⟨_, _, a', ⟨p, h1⟩, _⟩
  · exact ⟨p, h1⟩
  · exact ⟨p, h1⟩
theorem mini_blk {μ : Mu} {base : Nat} {w : World} {h : Hp} {b o : Nat} {p0 : Pl} {vs : List Value} {ro : Bool} {ps : List ByteArray} (hrel : Rel μ base h.get w) (hp : μ b = some p0) (hb : h.get b = some (.cells vs ro)) (hl : ∀ (i : Nat) (s : ByteArray), ps[i]? = some s → ((vs.drop o).map Abs.den)[i]? = some (Value.string s)) :
    InOk w.heap.size w ((⟨p0.c, o + p0.s, p0.N⟩ : Pl), some (blkOf ps)) := by
  obtain ⟨arr, e, fr, g1, g2, g3, _⟩ := hrel.blk b p0 _ hp hb
  intro z hz
  simp only [Option.some.injEq] at hz
  subst hz
  refine ⟨rfl, fun μ' => ⟨arr, e, fr, g1, g2, fun i u hu => ?_, fun hro => by cases hro⟩⟩
  rw [List.getElem?_map] at hu
  cases hpi : ps[i]? with
  | none => rw [hpi] at hu; cases hu
  | some s =>
    rw [hpi] at hu
    simp only [Option.map_some, Option.some.injEq] at hu
    subst hu
    have h1 := hl i s hpi
    rw [List.getElem?_map, List.getElem?_drop] at h1
    cases hv : vs[o + i]? with
    | none => rw [hv] at h1; cases h1
    | some y =>
      rw [hv] at h1
      simp only [Option.map_some, Option.some.injEq] at h1
      obtain ⟨v', h3, h4⟩ := g3 _ _ hv
      refine ⟨v', ?_, ?_⟩
      · rw [← h3]; congr 1; show o + p0.s + i = p0.s + (o + i); omega
      · rw [vr1_string h4 h1]; exact .zero (.mark (.plain rfl) rfl)
theorem same_body : Try.f19.body = some (bodyS Try.prog 19) := by kernel_rfl
theorem same_sem {h : Hp} {b1 o1 b2 o2 n k1 k2 : Nat} {vs us : List Value} {ro1 ro2 : Bool} {ps qs : List ByteArray} (hb1 : h.get b1 = some (.cells vs ro1)) (hb2 : h.get b2 = some (.cells us ro2)) (h1 : ∀ (i : Nat) (s : ByteArray), ps[i]? = some s → ((vs.drop o1).map Abs.den)[i]? = some (Value.string s)) (h2 : ∀ (i : Nat) (s : ByteArray), qs[i]? = some s → ((us.drop o2).map Abs.den)[i]? = some (Value.string s))
    (hlaw : lawV std Try.prog noCon (inCallF 60) 60 (fun _ => none) Try.f19 (bodyS Try.prog 19) [.slice (some ⟨0, 0, none⟩) n k1, .slice (some ⟨1, 0, none⟩) n k2] (inH [some (blkOf ps), some (blkOf qs)]) (fun v _ => den v = .bool true)) {K : Value → Hp → Prop} (hK : K (.bool true) h) :
    FunSem Try.prog 19 [.slice (some ⟨b1, o1, none⟩) n k1, .slice (some ⟨b2, o2, none⟩) n k2] h K := by
  refine ⟨.bool true, h, hK, Nat.le_refl _, fun {μ base w args'} hl hrel _ => ?_⟩
  obtain ⟨v1, l1, e1, r1, hl⟩ := hl.inv_cons
  obtain ⟨v2, l2, e2, r2, hl⟩ := hl.inv_cons
  have e3 := hl.inv_nil
  subst e3; subst e2
  have : args' = #[v1, v2] := Array.toList_inj.1 e1
  subst this
  obtain ⟨p1, hp1⟩ := slice_pl r1
  obtain ⟨p2, hp2⟩ := slice_pl r2
  have ok1 := mini_blk (o := o1) hrel hp1 hb1 h1
  have ok2 := mini_blk (o := o2) hrel hp2 hb2 h2
  have hall : ∀ z ∈ [((⟨p1.c, o1 + p1.s, p1.N⟩ : Pl), some (blkOf ps)), ((⟨p2.c, o2 + p2.s, p2.N⟩ : Pl), some (blkOf qs))], InOk w.heap.size w z := fun z hz => by
    simp only [List.mem_cons, List.not_mem_nil, or_false] at hz
    rcases hz with rfl | rfl
    · exact ok1
    · exact ok2
  refine .inr ⟨enters_name Try.func19 same_body _ w, ?_⟩
  refine (law_val Try.progOk (noCon_ok _) (inCallF_ok 60) Try.func19 same_body (u := .bool true) rfl (in_ro hall) hlaw
    (μ := inMu [((⟨p1.c, o1 + p1.s, p1.N⟩ : Pl), some (blkOf ps)), ((⟨p2.c, o2 + p2.s, p2.N⟩ : Pl), some (blkOf qs))]) (All2.cons (mini_slice r1 hp1 rfl) (All2.cons (mini_slice r2 hp2 rfl) All2.nil)) (in_rel (Nat.le_refl _) hall) (in_free [((⟨p1.c, o1 + p1.s, p1.N⟩ : Pl), some (blkOf ps)), ((⟨p2.c, o2 + p2.s, p2.N⟩ : Pl), some (blkOf qs))])).mono ?_
  rintro en w' ⟨hbel, rfl⟩
  exact ⟨_, rfl, μ, .same (.plain1 rfl) (sim_same hrel hbel) rfl (.refl μ _)⟩
theorem pref {vs l : List Value} {o : Nat} {ps : List ByteArray} (h : vs.drop o = l) (hl : l.map Abs.den = ps.map Value.string) : ∀ (i : Nat) (s : ByteArray), ps[i]? = some s → ((vs.drop o).map Abs.den)[i]? = some (Value.string s) := by
  intro i s hi
  rw [h, hl, List.getElem?_map, hi]; rfl
theorem not_pair {a b : Bool} (ha : a = true) (hb : b = true) : ¬ (!(a && b)) = true := by subst ha; subst hb; decide
theorem sameD_ok : ∀ args h K, sameD std args h K → FunSem Try.prog 19 args h K := by
  intro args h K e
  unfold sameD at e
  split at e
  case h_2 => exact e.elim
  rename_i b1 o1 n1 k1 b2 o2 n2 k2
  split at e
  case h_2 => exact e.elim
  rename_i vs ro1 us ro2 hb1 hb2
  split at e
  · exact same_sem (ps := []) (qs := []) hb1 hb2 (fun i s h => by cases h) (fun i s h => by cases h) (by rw [same0_vc]) e
  · rename_i a c d f hv hu
    split at e
    case h_2 => exact e.elim
    rename_i p q r s d1 d2 d3 d4
    refine same_sem (ps := [p, q]) (qs := [r, s]) hb1 hb2 (pref hv (by simp [d1, d2])) (pref hu (by simp [d3, d4])) ?_ e.2
    rw [same1_vc]
    exact ⟨fun h => absurd h (not_pair e.1.1 e.1.2), fun _ => rfl⟩
  · rename_i a c a2 c2 d f d2 f2 hv hu
    split at e
    case h_2 => exact e.elim
    rename_i p q r s d1 d2 d3 d4
    split at e
    case h_2 => exact e.elim
    rename_i p2 q2 r2 s2 d5 d6 d7 d8
    refine same_sem (ps := [p, q, p2, q2]) (qs := [r, s, r2, s2]) hb1 hb2 (pref hv (by simp [d1, d2, d5, d6])) (pref hu (by simp [d3, d4, d7, d8])) ?_ e.2
    rw [same2_vc]
    exact ⟨fun h => absurd h (not_pair e.1.1.1 e.1.1.2), fun _ => ⟨fun h => absurd h (not_pair e.1.2.1 e.1.2.2), fun _ => rfl⟩⟩
  · exact e.elim
end Go.Proofs.Ytecdmdglkkeidaa
